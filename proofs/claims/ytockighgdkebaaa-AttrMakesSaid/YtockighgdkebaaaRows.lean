/-
  No cell of these rows narrows 'for every input' (looked for: loops, veiled, ifaces, maps, wideKeys, modest, calm, conditions, laid).
  DERIVED. THE GIVEN ROWS OF THIS SEAT. 5 by the template 'for every input the law returns true; each argument reads behind the call as it read before'; 0 by the template 'total and deterministic' (their statements: YtockighgdkebaaaTotals.lean).
  GIVEN WITH THE SEED: the statements are not yours to turn. If you find one false, say at which input.
  Laid BY PROGRAM, IN A SANDBOX (cutbox-rows.mjs): the forced cells as the released guide's own fill.sh prints them over the translation 47df2b9f62740065… (all of the seat's roots in one cut). By AI agents, Wed Nov 11 2026. No macro, syntax, notation, axiom, sorry.
-/
import Derived.Test.YtockighgdkebaaaChecked
import GoSem.Claim
import GoSem.ClaimJoined
import GoSem.ClaimMapViews
import Derived.JoinedTies
import Derived.KernelRfl
namespace Go.Proofs.Ytockighgdkebaaa
/- THE CELL 'sum', in the pinned program and in every row, IS THE sha256 OF THE DUMP (.gsa) THAT YtockighgdkebaaaProg.lean LOADS. Nothing in Lean hashes anything: it is a label: what it is worth is what the hold of that sum in a sandbox is worth. -/
noncomputable def Try.pinned : Pinned := { name := "ytockighgdkebaaa", sum := "47df2b9f627400655db839f40c18a1a1629fe537c3168fefb324c524ce8a3067", checked := Try.checked }
namespace Rows
def none {H : Type} : Left H := { results := [], args := [] }

/-- 'vitrinelaw05.AttrFields': WHATEVER THE INPUT: true; the input reads as it did. -/
def attrFieldsSpec : ChangeSpec := { name := "attrFields", fn := fun _ => fun
  | [d1, d2] => { results := [.lit (.bool true)], args := [d1, d2] }
  | _ => none }
def attrFieldsRow : OpenClaim := { program := "ytockighgdkebaaa", sum := "47df2b9f627400655db839f40c18a1a1629fe537c3168fefb324c524ce8a3067", func := "vitrine/vitrinelaw05.AttrFields", spec := "attrFields", apart := false }
def AttrFieldsSaid : Prop := attrFieldsRow.holds Try.pinned (OpenSpec.ofChange attrFieldsSpec)

/-- ITS FALSE NEIGHBOUR: 'it returns false'. Refute it at one input. -/
def attrFieldsWrong : ChangeSpec := { name := "attrFields", fn := fun _ => fun
  | [d1, d2] => { results := [.lit (.bool false)], args := [d1, d2] }
  | _ => none }
def AttrFieldsWrongFalsely : Prop := attrFieldsRow.holds Try.pinned (OpenSpec.ofChange attrFieldsWrong)

/-- 'vitrinelaw05.AttrApplies': WHATEVER THE INPUT: true; the input reads as it did. -/
def attrAppliesSpec : ChangeSpec := { name := "attrApplies", fn := fun _ => fun
  | [d1, d2] => { results := [.lit (.bool true)], args := [d1, d2] }
  | _ => none }
def attrAppliesRow : OpenClaim := { program := "ytockighgdkebaaa", sum := "47df2b9f627400655db839f40c18a1a1629fe537c3168fefb324c524ce8a3067", func := "vitrine/vitrinelaw05.AttrApplies", spec := "attrApplies", apart := false }
def AttrAppliesSaid : Prop := attrAppliesRow.holds Try.pinned (OpenSpec.ofChange attrAppliesSpec)

/-- ITS FALSE NEIGHBOUR: 'it returns false'. Refute it at one input. -/
def attrAppliesWrong : ChangeSpec := { name := "attrApplies", fn := fun _ => fun
  | [d1, d2] => { results := [.lit (.bool false)], args := [d1, d2] }
  | _ => none }
def AttrAppliesWrongFalsely : Prop := attrAppliesRow.holds Try.pinned (OpenSpec.ofChange attrAppliesWrong)

/-- 'vitrinelaw05.AttrParses': WHATEVER THE INPUT: true; the input reads as it did. -/
def attrParsesSpec : ChangeSpec := { name := "attrParses", fn := fun _ => fun
  | [d] => { results := [.lit (.bool true)], args := [d] }
  | _ => none }
def attrParsesRow : OpenClaim := { program := "ytockighgdkebaaa", sum := "47df2b9f627400655db839f40c18a1a1629fe537c3168fefb324c524ce8a3067", func := "vitrine/vitrinelaw05.AttrParses", spec := "attrParses", apart := false }
def AttrParsesSaid : Prop := attrParsesRow.holds Try.pinned (OpenSpec.ofChange attrParsesSpec)

/-- ITS FALSE NEIGHBOUR: 'it returns false'. Refute it at one input. -/
def attrParsesWrong : ChangeSpec := { name := "attrParses", fn := fun _ => fun
  | [d] => { results := [.lit (.bool false)], args := [d] }
  | _ => none }
def AttrParsesWrongFalsely : Prop := attrParsesRow.holds Try.pinned (OpenSpec.ofChange attrParsesWrong)

/-- 'vitrinelaw05.AttrBytes': WHATEVER THE INPUT: true; the input reads as it did. -/
def attrBytesSpec : ChangeSpec := { name := "attrBytes", fn := fun _ => fun
  | [d1, d2] => { results := [.lit (.bool true)], args := [d1, d2] }
  | _ => none }
def attrBytesRow : OpenClaim := { program := "ytockighgdkebaaa", sum := "47df2b9f627400655db839f40c18a1a1629fe537c3168fefb324c524ce8a3067", func := "vitrine/vitrinelaw05.AttrBytes", spec := "attrBytes", apart := false }
def AttrBytesSaid : Prop := attrBytesRow.holds Try.pinned (OpenSpec.ofChange attrBytesSpec)

/-- ITS FALSE NEIGHBOUR: 'it returns false'. Refute it at one input. -/
def attrBytesWrong : ChangeSpec := { name := "attrBytes", fn := fun _ => fun
  | [d1, d2] => { results := [.lit (.bool false)], args := [d1, d2] }
  | _ => none }
def AttrBytesWrongFalsely : Prop := attrBytesRow.holds Try.pinned (OpenSpec.ofChange attrBytesWrong)

/-- 'vitrinelaw05.AttrMakes': WHATEVER THE INPUT: true; the input reads as it did. -/
def attrMakesSpec : ChangeSpec := { name := "attrMakes", fn := fun _ => fun
  | [d1, d2] => { results := [.lit (.bool true)], args := [d1, d2] }
  | _ => none }
def attrMakesRow : OpenClaim := { program := "ytockighgdkebaaa", sum := "47df2b9f627400655db839f40c18a1a1629fe537c3168fefb324c524ce8a3067", func := "vitrine/vitrinelaw05.AttrMakes", spec := "attrMakes", apart := false }
def AttrMakesSaid : Prop := attrMakesRow.holds Try.pinned (OpenSpec.ofChange attrMakesSpec)

/-- ITS FALSE NEIGHBOUR: 'it returns false'. Refute it at one input. -/
def attrMakesWrong : ChangeSpec := { name := "attrMakes", fn := fun _ => fun
  | [d1, d2] => { results := [.lit (.bool false)], args := [d1, d2] }
  | _ => none }
def AttrMakesWrongFalsely : Prop := attrMakesRow.holds Try.pinned (OpenSpec.ofChange attrMakesWrong)

/- THE SECOND FORM. 'bulk': how many values and letters a reading holds, each counted each time it is reached (what is shared counts as often as it is met; a slice's spare places count too). A statement '..UptoSaid' is the law's where the arguments, and the package variables that the reading takes, are together of bulk at most 1048576: NARROWER than '..Said'. Prove '..Said' where nothing that the law and all that it calls make is longer than what came in: it says more and counts as full. Else prove '..UptoSaid'. A law counts once. -/
mutual
def uptoBulk {H : Type} : DataW H → Nat
  | .lit (.string bytes) => bytes.length + 1
  | .lit _ => 1
  | .nil => 1
  | .ptr d => uptoBulk d + 1
  | .slice elems spare => uptoBulkAll elems + uptoBulkAll spare + 1
  | .agg parts => uptoBulkAll parts + 1
  | .iface _ d => uptoBulk d + 1
  | .map entries => uptoBulkEntries entries + 1
  | .held _ => 1
def uptoBulkAll {H : Type} : List (DataW H) → Nat
  | [] => 0
  | d :: r => uptoBulk d + uptoBulkAll r
def uptoBulkEntries {H : Type} : List (Lit × DataW H) → Nat
  | [] => 0
  | x :: r => uptoBulkEntry x + uptoBulkEntries r
def uptoBulkEntry {H : Type} : Lit × DataW H → Nat
  | (.string bytes, d) => bytes.length + uptoBulk d + 1
  | (_, d) => uptoBulk d + 1
 end
def uptoSmall : (H : Type) → List (DataW H) → Bool := fun _ ds => decide (uptoBulkAll ds ≤ 1048576)
def OpenSpec.upto (s : _root_.Go.ChangeSpec) : _root_.Go.OpenSpec := { _root_.Go.OpenSpec.ofChange s with cond := some uptoSmall }

/-- 'vitrinelaw05.AttrFields', WHERE WHAT IT READS IS OF BULK AT MOST 1048576: true; the input reads as it did. -/
def attrFieldsUptoRow : OpenClaim := { program := "ytockighgdkebaaa", sum := "47df2b9f627400655db839f40c18a1a1629fe537c3168fefb324c524ce8a3067", func := "vitrine/vitrinelaw05.AttrFields", spec := "attrFields", apart := false, narrowed := true }
def AttrFieldsUptoSaid : Prop := attrFieldsUptoRow.holds Try.pinned (OpenSpec.upto attrFieldsSpec)

/-- 'vitrinelaw05.AttrApplies', WHERE WHAT IT READS IS OF BULK AT MOST 1048576: true; the input reads as it did. -/
def attrAppliesUptoRow : OpenClaim := { program := "ytockighgdkebaaa", sum := "47df2b9f627400655db839f40c18a1a1629fe537c3168fefb324c524ce8a3067", func := "vitrine/vitrinelaw05.AttrApplies", spec := "attrApplies", apart := false, narrowed := true }
def AttrAppliesUptoSaid : Prop := attrAppliesUptoRow.holds Try.pinned (OpenSpec.upto attrAppliesSpec)

/-- 'vitrinelaw05.AttrParses', WHERE WHAT IT READS IS OF BULK AT MOST 1048576: true; the input reads as it did. -/
def attrParsesUptoRow : OpenClaim := { program := "ytockighgdkebaaa", sum := "47df2b9f627400655db839f40c18a1a1629fe537c3168fefb324c524ce8a3067", func := "vitrine/vitrinelaw05.AttrParses", spec := "attrParses", apart := false, narrowed := true }
def AttrParsesUptoSaid : Prop := attrParsesUptoRow.holds Try.pinned (OpenSpec.upto attrParsesSpec)

/-- 'vitrinelaw05.AttrBytes', WHERE WHAT IT READS IS OF BULK AT MOST 1048576: true; the input reads as it did. -/
def attrBytesUptoRow : OpenClaim := { program := "ytockighgdkebaaa", sum := "47df2b9f627400655db839f40c18a1a1629fe537c3168fefb324c524ce8a3067", func := "vitrine/vitrinelaw05.AttrBytes", spec := "attrBytes", apart := false, narrowed := true }
def AttrBytesUptoSaid : Prop := attrBytesUptoRow.holds Try.pinned (OpenSpec.upto attrBytesSpec)

/-- 'vitrinelaw05.AttrMakes', WHERE WHAT IT READS IS OF BULK AT MOST 1048576: true; the input reads as it did. -/
def attrMakesUptoRow : OpenClaim := { program := "ytockighgdkebaaa", sum := "47df2b9f627400655db839f40c18a1a1629fe537c3168fefb324c524ce8a3067", func := "vitrine/vitrinelaw05.AttrMakes", spec := "attrMakes", apart := false, narrowed := true }
def AttrMakesUptoSaid : Prop := attrMakesUptoRow.holds Try.pinned (OpenSpec.upto attrMakesSpec)

end Rows
end Go.Proofs.Ytockighgdkebaaa
