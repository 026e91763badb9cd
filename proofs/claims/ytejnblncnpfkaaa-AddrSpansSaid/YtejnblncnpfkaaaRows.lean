/-
  No cell of these rows narrows 'for every input' (looked for: loops, veiled, ifaces, maps, wideKeys, modest, calm, conditions, laid).
  DERIVED. THE GIVEN ROWS OF THIS SEAT. 6 by the template 'for every input the law returns true; each argument reads behind the call as it read before'; 0 by the template 'total and deterministic' (their statements: YtejnblncnpfkaaaTotals.lean).
  GIVEN WITH THE SEED: the statements are not yours to turn. If you find one false, say at which input.
  Laid BY PROGRAM, IN A SANDBOX (cutbox-rows.mjs): the forced cells as the released guide's own fill.sh prints them over the translation fcadf91d9abc85e5… (all of the seat's roots in one cut). By AI agents, Wed Nov 11 2026. No macro, syntax, notation, axiom, sorry.
-/
import Derived.Test.YtejnblncnpfkaaaChecked
import GoSem.Claim
import GoSem.ClaimJoined
import GoSem.ClaimMapViews
import Derived.JoinedTies
import Derived.KernelRfl
namespace Go.Proofs.Ytejnblncnpfkaaa
/- THE CELL 'sum', in the pinned program and in every row, IS THE sha256 OF THE DUMP (.gsa) THAT YtejnblncnpfkaaaProg.lean LOADS. Nothing in Lean hashes anything: it is a label: what it is worth is what the hold of that sum in a sandbox is worth. -/
noncomputable def Try.pinned : Pinned := { name := "ytejnblncnpfkaaa", sum := "fcadf91d9abc85e5b7f73f74b793ab84605a3b861175ab06d13954332f0b25fa", checked := Try.checked }
namespace Rows
def none {H : Type} : Left H := { results := [], args := [] }

/-- 'vitrinelaw04.AddrModels': WHATEVER THE INPUT: true; the input reads as it did. -/
def addrModelsSpec : ChangeSpec := { name := "addrModels", fn := fun _ => fun
  | [d] => { results := [.lit (.bool true)], args := [d] }
  | _ => none }
def addrModelsRow : OpenClaim := { program := "ytejnblncnpfkaaa", sum := "fcadf91d9abc85e5b7f73f74b793ab84605a3b861175ab06d13954332f0b25fa", func := "vitrine/vitrinelaw04.AddrModels", spec := "addrModels", apart := false }
def AddrModelsSaid : Prop := addrModelsRow.holds Try.pinned (OpenSpec.ofChange addrModelsSpec)

/-- ITS FALSE NEIGHBOUR: 'it returns false'. Refute it at one input. -/
def addrModelsWrong : ChangeSpec := { name := "addrModels", fn := fun _ => fun
  | [d] => { results := [.lit (.bool false)], args := [d] }
  | _ => none }
def AddrModelsWrongFalsely : Prop := addrModelsRow.holds Try.pinned (OpenSpec.ofChange addrModelsWrong)

/-- 'vitrinelaw04.AddrMoves': WHATEVER THE INPUT: true; the input reads as it did. -/
def addrMovesSpec : ChangeSpec := { name := "addrMoves", fn := fun _ => fun
  | [d1, d2, d3, d4] => { results := [.lit (.bool true)], args := [d1, d2, d3, d4] }
  | _ => none }
def addrMovesRow : OpenClaim := { program := "ytejnblncnpfkaaa", sum := "fcadf91d9abc85e5b7f73f74b793ab84605a3b861175ab06d13954332f0b25fa", func := "vitrine/vitrinelaw04.AddrMoves", spec := "addrMoves", apart := false }
def AddrMovesSaid : Prop := addrMovesRow.holds Try.pinned (OpenSpec.ofChange addrMovesSpec)

/-- ITS FALSE NEIGHBOUR: 'it returns false'. Refute it at one input. -/
def addrMovesWrong : ChangeSpec := { name := "addrMoves", fn := fun _ => fun
  | [d1, d2, d3, d4] => { results := [.lit (.bool false)], args := [d1, d2, d3, d4] }
  | _ => none }
def AddrMovesWrongFalsely : Prop := addrMovesRow.holds Try.pinned (OpenSpec.ofChange addrMovesWrong)

/-- 'vitrinelaw04.AddrCodes': WHATEVER THE INPUT: true; the input reads as it did. -/
def addrCodesSpec : ChangeSpec := { name := "addrCodes", fn := fun _ => fun
  | [d1, d2, d3] => { results := [.lit (.bool true)], args := [d1, d2, d3] }
  | _ => none }
def addrCodesRow : OpenClaim := { program := "ytejnblncnpfkaaa", sum := "fcadf91d9abc85e5b7f73f74b793ab84605a3b861175ab06d13954332f0b25fa", func := "vitrine/vitrinelaw04.AddrCodes", spec := "addrCodes", apart := false }
def AddrCodesSaid : Prop := addrCodesRow.holds Try.pinned (OpenSpec.ofChange addrCodesSpec)

/-- ITS FALSE NEIGHBOUR: 'it returns false'. Refute it at one input. -/
def addrCodesWrong : ChangeSpec := { name := "addrCodes", fn := fun _ => fun
  | [d1, d2, d3] => { results := [.lit (.bool false)], args := [d1, d2, d3] }
  | _ => none }
def AddrCodesWrongFalsely : Prop := addrCodesRow.holds Try.pinned (OpenSpec.ofChange addrCodesWrong)

/-- 'vitrinelaw04.AddrSixes': WHATEVER THE INPUT: true; the input reads as it did. -/
def addrSixesSpec : ChangeSpec := { name := "addrSixes", fn := fun _ => fun
  | [d] => { results := [.lit (.bool true)], args := [d] }
  | _ => none }
def addrSixesRow : OpenClaim := { program := "ytejnblncnpfkaaa", sum := "fcadf91d9abc85e5b7f73f74b793ab84605a3b861175ab06d13954332f0b25fa", func := "vitrine/vitrinelaw04.AddrSixes", spec := "addrSixes", apart := false }
def AddrSixesSaid : Prop := addrSixesRow.holds Try.pinned (OpenSpec.ofChange addrSixesSpec)

/-- ITS FALSE NEIGHBOUR: 'it returns false'. Refute it at one input. -/
def addrSixesWrong : ChangeSpec := { name := "addrSixes", fn := fun _ => fun
  | [d] => { results := [.lit (.bool false)], args := [d] }
  | _ => none }
def AddrSixesWrongFalsely : Prop := addrSixesRow.holds Try.pinned (OpenSpec.ofChange addrSixesWrong)

/-- 'vitrinelaw04.AddrPlaces': WHATEVER THE INPUT: true; the input reads as it did. -/
def addrPlacesSpec : ChangeSpec := { name := "addrPlaces", fn := fun _ => fun
  | [d1, d2, d3, d4] => { results := [.lit (.bool true)], args := [d1, d2, d3, d4] }
  | _ => none }
def addrPlacesRow : OpenClaim := { program := "ytejnblncnpfkaaa", sum := "fcadf91d9abc85e5b7f73f74b793ab84605a3b861175ab06d13954332f0b25fa", func := "vitrine/vitrinelaw04.AddrPlaces", spec := "addrPlaces", apart := false }
def AddrPlacesSaid : Prop := addrPlacesRow.holds Try.pinned (OpenSpec.ofChange addrPlacesSpec)

/-- ITS FALSE NEIGHBOUR: 'it returns false'. Refute it at one input. -/
def addrPlacesWrong : ChangeSpec := { name := "addrPlaces", fn := fun _ => fun
  | [d1, d2, d3, d4] => { results := [.lit (.bool false)], args := [d1, d2, d3, d4] }
  | _ => none }
def AddrPlacesWrongFalsely : Prop := addrPlacesRow.holds Try.pinned (OpenSpec.ofChange addrPlacesWrong)

/-- 'vitrinelaw04.AddrSpans': WHATEVER THE INPUT: true; the input reads as it did. -/
def addrSpansSpec : ChangeSpec := { name := "addrSpans", fn := fun _ => fun
  | [d1, d2, d3, d4] => { results := [.lit (.bool true)], args := [d1, d2, d3, d4] }
  | _ => none }
def addrSpansRow : OpenClaim := { program := "ytejnblncnpfkaaa", sum := "fcadf91d9abc85e5b7f73f74b793ab84605a3b861175ab06d13954332f0b25fa", func := "vitrine/vitrinelaw04.AddrSpans", spec := "addrSpans", unfollowed := true, recurses := true, apart := false }
def AddrSpansSaid : Prop := addrSpansRow.holds Try.pinned (OpenSpec.ofChange addrSpansSpec)

/-- ITS FALSE NEIGHBOUR: 'it returns false'. Refute it at one input. -/
def addrSpansWrong : ChangeSpec := { name := "addrSpans", fn := fun _ => fun
  | [d1, d2, d3, d4] => { results := [.lit (.bool false)], args := [d1, d2, d3, d4] }
  | _ => none }
def AddrSpansWrongFalsely : Prop := addrSpansRow.holds Try.pinned (OpenSpec.ofChange addrSpansWrong)

/- THE SECOND FORM. 'bulk': how many values and letters a reading holds, each counted each time it is reached (what is shared counts as often as it is met; a slice's spare places count too). A statement '..UptoSaid' is the law's where the arguments, and the package variables that the reading takes, are together of bulk at most 1048576: NARROWER than '..Said'. Prove '..Said' where nothing that the law and all that it calls make is longer than what came in: it says more and counts as full. Else prove '..UptoSaid'. A law counts once. -/
mutual
def uptoBulk {H : Type} : DataW H → Nat
  | .lit (.string bytes) => bytes.length + 1
  | .lit _ => 1
  | .nil => 1
  | .ptr d => uptoBulk d + 1
  | .slice elems spare => uptoBulkAll elems + uptoBulkAll spare + 1
  | .agg parts => uptoBulkAll parts + 1
  | .iface _ d => uptoBulk d + 1
  | .map entries => uptoBulkEntries entries + 1
  | .held _ => 1
def uptoBulkAll {H : Type} : List (DataW H) → Nat
  | [] => 0
  | d :: r => uptoBulk d + uptoBulkAll r
def uptoBulkEntries {H : Type} : List (Lit × DataW H) → Nat
  | [] => 0
  | x :: r => uptoBulkEntry x + uptoBulkEntries r
def uptoBulkEntry {H : Type} : Lit × DataW H → Nat
  | (.string bytes, d) => bytes.length + uptoBulk d + 1
  | (_, d) => uptoBulk d + 1
 end
def uptoSmall : (H : Type) → List (DataW H) → Bool := fun _ ds => decide (uptoBulkAll ds ≤ 1048576)
def OpenSpec.upto (s : _root_.Go.ChangeSpec) : _root_.Go.OpenSpec := { _root_.Go.OpenSpec.ofChange s with cond := some uptoSmall }

/-- 'vitrinelaw04.AddrModels', WHERE WHAT IT READS IS OF BULK AT MOST 1048576: true; the input reads as it did. -/
def addrModelsUptoRow : OpenClaim := { program := "ytejnblncnpfkaaa", sum := "fcadf91d9abc85e5b7f73f74b793ab84605a3b861175ab06d13954332f0b25fa", func := "vitrine/vitrinelaw04.AddrModels", spec := "addrModels", apart := false, narrowed := true }
def AddrModelsUptoSaid : Prop := addrModelsUptoRow.holds Try.pinned (OpenSpec.upto addrModelsSpec)

/-- 'vitrinelaw04.AddrMoves', WHERE WHAT IT READS IS OF BULK AT MOST 1048576: true; the input reads as it did. -/
def addrMovesUptoRow : OpenClaim := { program := "ytejnblncnpfkaaa", sum := "fcadf91d9abc85e5b7f73f74b793ab84605a3b861175ab06d13954332f0b25fa", func := "vitrine/vitrinelaw04.AddrMoves", spec := "addrMoves", apart := false, narrowed := true }
def AddrMovesUptoSaid : Prop := addrMovesUptoRow.holds Try.pinned (OpenSpec.upto addrMovesSpec)

/-- 'vitrinelaw04.AddrCodes', WHERE WHAT IT READS IS OF BULK AT MOST 1048576: true; the input reads as it did. -/
def addrCodesUptoRow : OpenClaim := { program := "ytejnblncnpfkaaa", sum := "fcadf91d9abc85e5b7f73f74b793ab84605a3b861175ab06d13954332f0b25fa", func := "vitrine/vitrinelaw04.AddrCodes", spec := "addrCodes", apart := false, narrowed := true }
def AddrCodesUptoSaid : Prop := addrCodesUptoRow.holds Try.pinned (OpenSpec.upto addrCodesSpec)

/-- 'vitrinelaw04.AddrSixes', WHERE WHAT IT READS IS OF BULK AT MOST 1048576: true; the input reads as it did. -/
def addrSixesUptoRow : OpenClaim := { program := "ytejnblncnpfkaaa", sum := "fcadf91d9abc85e5b7f73f74b793ab84605a3b861175ab06d13954332f0b25fa", func := "vitrine/vitrinelaw04.AddrSixes", spec := "addrSixes", apart := false, narrowed := true }
def AddrSixesUptoSaid : Prop := addrSixesUptoRow.holds Try.pinned (OpenSpec.upto addrSixesSpec)

/-- 'vitrinelaw04.AddrPlaces', WHERE WHAT IT READS IS OF BULK AT MOST 1048576: true; the input reads as it did. -/
def addrPlacesUptoRow : OpenClaim := { program := "ytejnblncnpfkaaa", sum := "fcadf91d9abc85e5b7f73f74b793ab84605a3b861175ab06d13954332f0b25fa", func := "vitrine/vitrinelaw04.AddrPlaces", spec := "addrPlaces", apart := false, narrowed := true }
def AddrPlacesUptoSaid : Prop := addrPlacesUptoRow.holds Try.pinned (OpenSpec.upto addrPlacesSpec)

/-- 'vitrinelaw04.AddrSpans', WHERE WHAT IT READS IS OF BULK AT MOST 1048576: true; the input reads as it did. -/
def addrSpansUptoRow : OpenClaim := { program := "ytejnblncnpfkaaa", sum := "fcadf91d9abc85e5b7f73f74b793ab84605a3b861175ab06d13954332f0b25fa", func := "vitrine/vitrinelaw04.AddrSpans", spec := "addrSpans", unfollowed := true, recurses := true, apart := false, narrowed := true }
def AddrSpansUptoSaid : Prop := addrSpansUptoRow.holds Try.pinned (OpenSpec.upto addrSpansSpec)

end Rows
end Go.Proofs.Ytejnblncnpfkaaa
