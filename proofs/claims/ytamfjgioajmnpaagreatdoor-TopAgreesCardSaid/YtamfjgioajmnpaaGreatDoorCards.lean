/-
  DERIVED. GIVEN WITH THE SEED: THE CARDS: each row of YtamfjgioajmnpaaGreatDoorRows.lean that lists a variable, with what it lists TIED to the program's text (the seventh form; the later family's looks); each row that meets fmt, with fmt's text TOLD by the authors' own Lean function (tested against real Go, not proved from fmt's source: count such statements apart). THE CARD IS WHAT COUNTS. Prove the row's statement (the work); the ties are given (YtamfjgioajmnpaaGreatDoorTie.lean); close each card by the builder's one call (the guide's Derived/Test/ToyasCard.lean, 'card_holds'). Laid BY PROGRAM, IN A SANDBOX (cutbox-door.mjs). By AI agents, Wed Nov 11 2026. No macro, syntax, notation, axiom, sorry.
-/
import Derived.Test.YtamfjgioajmnpaaGreatDoorRows
import GoSem.ClaimSeven
namespace Go.Proofs.YtamfjgioajmnpaaGreatDoor
namespace Rows

/-- THE TIED CARD OF 'vitrinetop.TopBounded'. -/
def topBoundedCard : Claim7 := { stood := { row := topBoundedRow, standIns := [], harness := (true, "91eb62be8f31b446eb075c36301ddf98362c0d1176ae0c8ea45dd4f1b378935a"), looks := false }, kinds := [], alts := [], laidByText := true, laidKinds := [.data, .data, .data, .pinned], laidTests := true, laidLooks := .later }
def TopBoundedCardSaid : Prop := Claim7.holds Tryz.pinned (.plain (OpenSpec.ofChange topBoundedSpec)) topBoundedCard

/-- THE TIED CARD OF 'vitrinetop.TopCounts'. -/
def topCountsCard : Claim7 := { stood := { row := topCountsRow, standIns := [], harness := (true, "91eb62be8f31b446eb075c36301ddf98362c0d1176ae0c8ea45dd4f1b378935a"), looks := false }, kinds := [], alts := [], laidByText := true, laidKinds := [.data, .data, .data, .pinned], laidTests := true, laidLooks := .later }
def TopCountsCardSaid : Prop := Claim7.holds Tryz.pinned (.plain (OpenSpec.ofChange topCountsSpec)) topCountsCard

/-- THE TIED CARD OF 'vitrinetop.TopAgrees'. -/
def topAgreesCard : Claim7 := { stood := { row := topAgreesRow, standIns := [], harness := (true, "91eb62be8f31b446eb075c36301ddf98362c0d1176ae0c8ea45dd4f1b378935a"), looks := false }, kinds := [], alts := [], laidByText := true, laidKinds := [.data, .data, .data, .pinned], laidTests := true, laidLooks := .later }
def TopAgreesCardSaid : Prop := Claim7.holds Tryz.pinned (.plain (OpenSpec.ofChange topAgreesSpec)) topAgreesCard

/-- THE TIED CARD OF 'vitrinetop.TopSafe'. -/
def topSafeCard : Claim7 := { stood := { row := topSafeRow, standIns := [], harness := (true, "91eb62be8f31b446eb075c36301ddf98362c0d1176ae0c8ea45dd4f1b378935a"), looks := false }, kinds := [], alts := [], laidByText := true, laidKinds := [.data, .data, .data, .pinned], laidTests := true, laidLooks := .later }
def TopSafeCardSaid : Prop := Claim7.holds Tryz.pinned (.plain (OpenSpec.ofChange topSafeSpec)) topSafeCard

/-- THE TIED CARD OF 'vitrinetop.TopTwins'. -/
def topTwinsCard : Claim7 := { stood := { row := topTwinsRow, standIns := [], harness := (true, "91eb62be8f31b446eb075c36301ddf98362c0d1176ae0c8ea45dd4f1b378935a"), looks := false }, kinds := [], alts := [], laidByText := true, laidKinds := [.data, .data, .data, .pinned], laidTests := true, laidLooks := .later }
def TopTwinsCardSaid : Prop := Claim7.holds Tryz.pinned (.plain (OpenSpec.ofChange topTwinsSpec)) topTwinsCard

/-- THE TIED CARD OF 'vitrinetop.TopPlain'. -/
def topPlainCard : Claim7 := { stood := { row := topPlainRow, standIns := [], harness := (true, "91eb62be8f31b446eb075c36301ddf98362c0d1176ae0c8ea45dd4f1b378935a"), looks := false }, kinds := [], alts := [], laidByText := true, laidKinds := [.data, .data, .data, .pinned], laidTests := true, laidLooks := .later }
def TopPlainCardSaid : Prop := Claim7.holds Tryz.pinned (.plain (OpenSpec.ofChange topPlainSpec)) topPlainCard

/-- THE SECOND FORM's CARD OF 'vitrinetop.TopBounded'. -/
def topBoundedUptoCard : Claim7 := { stood := { row := topBoundedUptoRow, standIns := [], harness := (true, "91eb62be8f31b446eb075c36301ddf98362c0d1176ae0c8ea45dd4f1b378935a"), looks := false }, kinds := [], alts := [], laidByText := true, laidKinds := [.data, .data, .data, .pinned], laidTests := true, laidLooks := .later }
def TopBoundedUptoCardSaid : Prop := Claim7.holds Tryz.pinned (.plain (OpenSpec.upto topBoundedSpec)) topBoundedUptoCard

/-- THE SECOND FORM's CARD OF 'vitrinetop.TopCounts'. -/
def topCountsUptoCard : Claim7 := { stood := { row := topCountsUptoRow, standIns := [], harness := (true, "91eb62be8f31b446eb075c36301ddf98362c0d1176ae0c8ea45dd4f1b378935a"), looks := false }, kinds := [], alts := [], laidByText := true, laidKinds := [.data, .data, .data, .pinned], laidTests := true, laidLooks := .later }
def TopCountsUptoCardSaid : Prop := Claim7.holds Tryz.pinned (.plain (OpenSpec.upto topCountsSpec)) topCountsUptoCard

/-- THE SECOND FORM's CARD OF 'vitrinetop.TopAgrees'. -/
def topAgreesUptoCard : Claim7 := { stood := { row := topAgreesUptoRow, standIns := [], harness := (true, "91eb62be8f31b446eb075c36301ddf98362c0d1176ae0c8ea45dd4f1b378935a"), looks := false }, kinds := [], alts := [], laidByText := true, laidKinds := [.data, .data, .data, .pinned], laidTests := true, laidLooks := .later }
def TopAgreesUptoCardSaid : Prop := Claim7.holds Tryz.pinned (.plain (OpenSpec.upto topAgreesSpec)) topAgreesUptoCard

/-- THE SECOND FORM's CARD OF 'vitrinetop.TopSafe'. -/
def topSafeUptoCard : Claim7 := { stood := { row := topSafeUptoRow, standIns := [], harness := (true, "91eb62be8f31b446eb075c36301ddf98362c0d1176ae0c8ea45dd4f1b378935a"), looks := false }, kinds := [], alts := [], laidByText := true, laidKinds := [.data, .data, .data, .pinned], laidTests := true, laidLooks := .later }
def TopSafeUptoCardSaid : Prop := Claim7.holds Tryz.pinned (.plain (OpenSpec.upto topSafeSpec)) topSafeUptoCard

/-- THE SECOND FORM's CARD OF 'vitrinetop.TopTwins'. -/
def topTwinsUptoCard : Claim7 := { stood := { row := topTwinsUptoRow, standIns := [], harness := (true, "91eb62be8f31b446eb075c36301ddf98362c0d1176ae0c8ea45dd4f1b378935a"), looks := false }, kinds := [], alts := [], laidByText := true, laidKinds := [.data, .data, .data, .pinned], laidTests := true, laidLooks := .later }
def TopTwinsUptoCardSaid : Prop := Claim7.holds Tryz.pinned (.plain (OpenSpec.upto topTwinsSpec)) topTwinsUptoCard

/-- THE SECOND FORM's CARD OF 'vitrinetop.TopPlain'. -/
def topPlainUptoCard : Claim7 := { stood := { row := topPlainUptoRow, standIns := [], harness := (true, "91eb62be8f31b446eb075c36301ddf98362c0d1176ae0c8ea45dd4f1b378935a"), looks := false }, kinds := [], alts := [], laidByText := true, laidKinds := [.data, .data, .data, .pinned], laidTests := true, laidLooks := .later }
def TopPlainUptoCardSaid : Prop := Claim7.holds Tryz.pinned (.plain (OpenSpec.upto topPlainSpec)) topPlainUptoCard
end Rows
end Go.Proofs.YtamfjgioajmnpaaGreatDoor
