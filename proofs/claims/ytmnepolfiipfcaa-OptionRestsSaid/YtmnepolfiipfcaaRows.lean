/-
  No cell of these rows narrows 'for every input' (looked for: loops, veiled, ifaces, maps, wideKeys, modest, calm, conditions, laid).
  DERIVED. THE GIVEN ROWS OF THIS SEAT. 5 by the template 'for every input the law returns true; each argument reads behind the call as it read before'; 0 by the template 'total and deterministic' (their statements: YtmnepolfiipfcaaTotals.lean).
  GIVEN WITH THE SEED: the statements are not yours to turn. If you find one false, say at which input.
  Laid BY PROGRAM, IN A SANDBOX (cutbox-rows.mjs): the forced cells as the released guide's own fill.sh prints them over the translation 1da3385e0e277704… (all of the seat's roots in one cut). By AI agents, Wed Nov 11 2026. No macro, syntax, notation, axiom, sorry.
-/
import Derived.Test.YtmnepolfiipfcaaChecked
import GoSem.Claim
import GoSem.ClaimJoined
import GoSem.ClaimMapViews
import Derived.JoinedTies
import Derived.KernelRfl
namespace Go.Proofs.Ytmnepolfiipfcaa
/- THE CELL 'sum', in the pinned program and in every row, IS THE sha256 OF THE DUMP (.gsa) THAT YtmnepolfiipfcaaProg.lean LOADS. Nothing in Lean hashes anything: it is a label: what it is worth is what the hold of that sum in a sandbox is worth. -/
noncomputable def Try.pinned : Pinned := { name := "ytmnepolfiipfcaa", sum := "1da3385e0e2777045cd07c13a7bd394c93dd7054c8c7e375c1c78518cf5af9ad", checked := Try.checked }
namespace Rows
def none {H : Type} : Left H := { results := [], args := [] }

/-- 'vitrinelaw08.OptionRefuses': WHATEVER THE INPUT: true; the input reads as it did. -/
def optionRefusesSpec : ChangeSpec := { name := "optionRefuses", fn := fun _ => fun
  | [d1, d2, d3] => { results := [.lit (.bool true)], args := [d1, d2, d3] }
  | _ => none }
def optionRefusesRow : OpenClaim := { program := "ytmnepolfiipfcaa", sum := "1da3385e0e2777045cd07c13a7bd394c93dd7054c8c7e375c1c78518cf5af9ad", func := "vitrine/vitrinelaw08.OptionRefuses", spec := "optionRefuses", apart := false }
def OptionRefusesSaid : Prop := optionRefusesRow.holds Try.pinned (OpenSpec.ofChange optionRefusesSpec)

/-- ITS FALSE NEIGHBOUR: 'it returns false'. Refute it at one input. -/
def optionRefusesWrong : ChangeSpec := { name := "optionRefuses", fn := fun _ => fun
  | [d1, d2, d3] => { results := [.lit (.bool false)], args := [d1, d2, d3] }
  | _ => none }
def OptionRefusesWrongFalsely : Prop := optionRefusesRow.holds Try.pinned (OpenSpec.ofChange optionRefusesWrong)

/-- 'vitrinelaw08.OptionFew': WHATEVER THE INPUT: true; the input reads as it did. -/
def optionFewSpec : ChangeSpec := { name := "optionFew", fn := fun _ => fun
  | [d1, d2, d3] => { results := [.lit (.bool true)], args := [d1, d2, d3] }
  | _ => none }
def optionFewRow : OpenClaim := { program := "ytmnepolfiipfcaa", sum := "1da3385e0e2777045cd07c13a7bd394c93dd7054c8c7e375c1c78518cf5af9ad", func := "vitrine/vitrinelaw08.OptionFew", spec := "optionFew", apart := false }
def OptionFewSaid : Prop := optionFewRow.holds Try.pinned (OpenSpec.ofChange optionFewSpec)

/-- ITS FALSE NEIGHBOUR: 'it returns false'. Refute it at one input. -/
def optionFewWrong : ChangeSpec := { name := "optionFew", fn := fun _ => fun
  | [d1, d2, d3] => { results := [.lit (.bool false)], args := [d1, d2, d3] }
  | _ => none }
def OptionFewWrongFalsely : Prop := optionFewRow.holds Try.pinned (OpenSpec.ofChange optionFewWrong)

/-- 'vitrinelaw08.OptionRests': WHATEVER THE INPUT: true; the input reads as it did. -/
def optionRestsSpec : ChangeSpec := { name := "optionRests", fn := fun _ => fun
  | [d1, d2, d3, d4, d5] => { results := [.lit (.bool true)], args := [d1, d2, d3, d4, d5] }
  | _ => none }
def optionRestsRow : OpenClaim := { program := "ytmnepolfiipfcaa", sum := "1da3385e0e2777045cd07c13a7bd394c93dd7054c8c7e375c1c78518cf5af9ad", func := "vitrine/vitrinelaw08.OptionRests", spec := "optionRests", apart := false }
def OptionRestsSaid : Prop := optionRestsRow.holds Try.pinned (OpenSpec.ofChange optionRestsSpec)

/-- ITS FALSE NEIGHBOUR: 'it returns false'. Refute it at one input. -/
def optionRestsWrong : ChangeSpec := { name := "optionRests", fn := fun _ => fun
  | [d1, d2, d3, d4, d5] => { results := [.lit (.bool false)], args := [d1, d2, d3, d4, d5] }
  | _ => none }
def OptionRestsWrongFalsely : Prop := optionRestsRow.holds Try.pinned (OpenSpec.ofChange optionRestsWrong)

/-- 'vitrinelaw08.OptionNil': WHATEVER THE INPUT: true; the input reads as it did. -/
def optionNilSpec : ChangeSpec := { name := "optionNil", fn := fun _ => fun
  | [d1, d2, d3] => { results := [.lit (.bool true)], args := [d1, d2, d3] }
  | _ => none }
def optionNilRow : OpenClaim := { program := "ytmnepolfiipfcaa", sum := "1da3385e0e2777045cd07c13a7bd394c93dd7054c8c7e375c1c78518cf5af9ad", func := "vitrine/vitrinelaw08.OptionNil", spec := "optionNil", unfollowed := true, recurses := true, apart := false }
def OptionNilSaid : Prop := optionNilRow.holds Try.pinned (OpenSpec.ofChange optionNilSpec)

/-- ITS FALSE NEIGHBOUR: 'it returns false'. Refute it at one input. -/
def optionNilWrong : ChangeSpec := { name := "optionNil", fn := fun _ => fun
  | [d1, d2, d3] => { results := [.lit (.bool false)], args := [d1, d2, d3] }
  | _ => none }
def OptionNilWrongFalsely : Prop := optionNilRow.holds Try.pinned (OpenSpec.ofChange optionNilWrong)

/-- 'vitrinelaw08.OptionPlays': WHATEVER THE INPUT: true; the input reads as it did. -/
def optionPlaysSpec : ChangeSpec := { name := "optionPlays", fn := fun _ => fun
  | [d1, d2, d3] => { results := [.lit (.bool true)], args := [d1, d2, d3] }
  | _ => none }
def optionPlaysRow : OpenClaim := { program := "ytmnepolfiipfcaa", sum := "1da3385e0e2777045cd07c13a7bd394c93dd7054c8c7e375c1c78518cf5af9ad", func := "vitrine/vitrinelaw08.OptionPlays", spec := "optionPlays", unfollowed := true, recurses := true, apart := false }
def OptionPlaysSaid : Prop := optionPlaysRow.holds Try.pinned (OpenSpec.ofChange optionPlaysSpec)

/-- ITS FALSE NEIGHBOUR: 'it returns false'. Refute it at one input. -/
def optionPlaysWrong : ChangeSpec := { name := "optionPlays", fn := fun _ => fun
  | [d1, d2, d3] => { results := [.lit (.bool false)], args := [d1, d2, d3] }
  | _ => none }
def OptionPlaysWrongFalsely : Prop := optionPlaysRow.holds Try.pinned (OpenSpec.ofChange optionPlaysWrong)

/- THE SECOND FORM. 'bulk': how many values and letters a reading holds, each counted each time it is reached (what is shared counts as often as it is met; a slice's spare places count too). A statement '..UptoSaid' is the law's where the arguments, and the package variables that the reading takes, are together of bulk at most 1048576: NARROWER than '..Said'. Prove '..Said' where nothing that the law and all that it calls make is longer than what came in: it says more and counts as full. Else prove '..UptoSaid'. A law counts once. -/
mutual
def uptoBulk {H : Type} : DataW H → Nat
  | .lit (.string bytes) => bytes.length + 1
  | .lit _ => 1
  | .nil => 1
  | .ptr d => uptoBulk d + 1
  | .slice elems spare => uptoBulkAll elems + uptoBulkAll spare + 1
  | .agg parts => uptoBulkAll parts + 1
  | .iface _ d => uptoBulk d + 1
  | .map entries => uptoBulkEntries entries + 1
  | .held _ => 1
def uptoBulkAll {H : Type} : List (DataW H) → Nat
  | [] => 0
  | d :: r => uptoBulk d + uptoBulkAll r
def uptoBulkEntries {H : Type} : List (Lit × DataW H) → Nat
  | [] => 0
  | x :: r => uptoBulkEntry x + uptoBulkEntries r
def uptoBulkEntry {H : Type} : Lit × DataW H → Nat
  | (.string bytes, d) => bytes.length + uptoBulk d + 1
  | (_, d) => uptoBulk d + 1
 end
def uptoSmall : (H : Type) → List (DataW H) → Bool := fun _ ds => decide (uptoBulkAll ds ≤ 1048576)
def OpenSpec.upto (s : _root_.Go.ChangeSpec) : _root_.Go.OpenSpec := { _root_.Go.OpenSpec.ofChange s with cond := some uptoSmall }

/-- 'vitrinelaw08.OptionRefuses', WHERE WHAT IT READS IS OF BULK AT MOST 1048576: true; the input reads as it did. -/
def optionRefusesUptoRow : OpenClaim := { program := "ytmnepolfiipfcaa", sum := "1da3385e0e2777045cd07c13a7bd394c93dd7054c8c7e375c1c78518cf5af9ad", func := "vitrine/vitrinelaw08.OptionRefuses", spec := "optionRefuses", apart := false, narrowed := true }
def OptionRefusesUptoSaid : Prop := optionRefusesUptoRow.holds Try.pinned (OpenSpec.upto optionRefusesSpec)

/-- 'vitrinelaw08.OptionFew', WHERE WHAT IT READS IS OF BULK AT MOST 1048576: true; the input reads as it did. -/
def optionFewUptoRow : OpenClaim := { program := "ytmnepolfiipfcaa", sum := "1da3385e0e2777045cd07c13a7bd394c93dd7054c8c7e375c1c78518cf5af9ad", func := "vitrine/vitrinelaw08.OptionFew", spec := "optionFew", apart := false, narrowed := true }
def OptionFewUptoSaid : Prop := optionFewUptoRow.holds Try.pinned (OpenSpec.upto optionFewSpec)

/-- 'vitrinelaw08.OptionRests', WHERE WHAT IT READS IS OF BULK AT MOST 1048576: true; the input reads as it did. -/
def optionRestsUptoRow : OpenClaim := { program := "ytmnepolfiipfcaa", sum := "1da3385e0e2777045cd07c13a7bd394c93dd7054c8c7e375c1c78518cf5af9ad", func := "vitrine/vitrinelaw08.OptionRests", spec := "optionRests", apart := false, narrowed := true }
def OptionRestsUptoSaid : Prop := optionRestsUptoRow.holds Try.pinned (OpenSpec.upto optionRestsSpec)

/-- 'vitrinelaw08.OptionNil', WHERE WHAT IT READS IS OF BULK AT MOST 1048576: true; the input reads as it did. -/
def optionNilUptoRow : OpenClaim := { program := "ytmnepolfiipfcaa", sum := "1da3385e0e2777045cd07c13a7bd394c93dd7054c8c7e375c1c78518cf5af9ad", func := "vitrine/vitrinelaw08.OptionNil", spec := "optionNil", unfollowed := true, recurses := true, apart := false, narrowed := true }
def OptionNilUptoSaid : Prop := optionNilUptoRow.holds Try.pinned (OpenSpec.upto optionNilSpec)

/-- 'vitrinelaw08.OptionPlays', WHERE WHAT IT READS IS OF BULK AT MOST 1048576: true; the input reads as it did. -/
def optionPlaysUptoRow : OpenClaim := { program := "ytmnepolfiipfcaa", sum := "1da3385e0e2777045cd07c13a7bd394c93dd7054c8c7e375c1c78518cf5af9ad", func := "vitrine/vitrinelaw08.OptionPlays", spec := "optionPlays", unfollowed := true, recurses := true, apart := false, narrowed := true }
def OptionPlaysUptoSaid : Prop := optionPlaysUptoRow.holds Try.pinned (OpenSpec.upto optionPlaysSpec)

end Rows
end Go.Proofs.Ytmnepolfiipfcaa
