/-
  No cell of these rows narrows 'for every input' (looked for: loops, veiled, ifaces, maps, wideKeys, modest, calm, conditions, laid).
  DERIVED. THE GIVEN ROWS OF THIS SEAT. 2 by the template 'for every input the law returns true; each argument reads behind the call as it read before'; 0 by the template 'total and deterministic' (their statements: YtahlilogobfhcaaTotals.lean).
  GIVEN WITH THE SEED: the statements are not yours to turn. If you find one false, say at which input.
  Laid BY PROGRAM, IN A SANDBOX (cutbox-rows.mjs): the forced cells as the released guide's own fill.sh prints them over the translation 1bbe275a92b9fc0c… (all of the seat's roots in one cut). By AI agents, Wed Nov 11 2026. No macro, syntax, notation, axiom, sorry.
-/
import Derived.Test.YtahlilogobfhcaaChecked
import GoSem.Claim
import GoSem.ClaimJoined
import GoSem.ClaimMapViews
import Derived.JoinedTies
import Derived.KernelRfl
namespace Go.Proofs.Ytahlilogobfhcaa
/- THE CELL 'sum', in the pinned program and in every row, IS THE sha256 OF THE DUMP (.gsa) THAT YtahlilogobfhcaaProg.lean LOADS. Nothing in Lean hashes anything: it is a label: what it is worth is what the hold of that sum in a sandbox is worth. -/
noncomputable def Try.pinned : Pinned := { name := "ytahlilogobfhcaa", sum := "1bbe275a92b9fc0c6055d9705932dbe8d97c3064fa1f1bf0d761f96d3b82794c", checked := Try.checked }
namespace Rows
def none {H : Type} : Left H := { results := [], args := [] }

/-- 'vitrinelaw16.OrderNames': WHATEVER THE INPUT: true; the input reads as it did. -/
def orderNamesSpec : ChangeSpec := { name := "orderNames", fn := fun _ => fun
  | [d1, d2] => { results := [.lit (.bool true)], args := [d1, d2] }
  | _ => none }
def orderNamesRow : OpenClaim := { program := "ytahlilogobfhcaa", sum := "1bbe275a92b9fc0c6055d9705932dbe8d97c3064fa1f1bf0d761f96d3b82794c", func := "vitrine/vitrinelaw16.OrderNames", spec := "orderNames", apart := false }
def OrderNamesSaid : Prop := orderNamesRow.holds Try.pinned (OpenSpec.ofChange orderNamesSpec)

/-- ITS FALSE NEIGHBOUR: 'it returns false'. Refute it at one input. -/
def orderNamesWrong : ChangeSpec := { name := "orderNames", fn := fun _ => fun
  | [d1, d2] => { results := [.lit (.bool false)], args := [d1, d2] }
  | _ => none }
def OrderNamesWrongFalsely : Prop := orderNamesRow.holds Try.pinned (OpenSpec.ofChange orderNamesWrong)

/-- 'vitrinelaw16.OrderBegins': WHATEVER THE INPUT: true; the input reads as it did. -/
def orderBeginsSpec : ChangeSpec := { name := "orderBegins", fn := fun _ => fun
  | [d1, d2] => { results := [.lit (.bool true)], args := [d1, d2] }
  | _ => none }
def orderBeginsRow : OpenClaim := { program := "ytahlilogobfhcaa", sum := "1bbe275a92b9fc0c6055d9705932dbe8d97c3064fa1f1bf0d761f96d3b82794c", func := "vitrine/vitrinelaw16.OrderBegins", spec := "orderBegins", apart := false }
def OrderBeginsSaid : Prop := orderBeginsRow.holds Try.pinned (OpenSpec.ofChange orderBeginsSpec)

/-- ITS FALSE NEIGHBOUR: 'it returns false'. Refute it at one input. -/
def orderBeginsWrong : ChangeSpec := { name := "orderBegins", fn := fun _ => fun
  | [d1, d2] => { results := [.lit (.bool false)], args := [d1, d2] }
  | _ => none }
def OrderBeginsWrongFalsely : Prop := orderBeginsRow.holds Try.pinned (OpenSpec.ofChange orderBeginsWrong)

/- THE SECOND FORM. 'bulk': how many values and letters a reading holds, each counted each time it is reached (what is shared counts as often as it is met; a slice's spare places count too). A statement '..UptoSaid' is the law's where the arguments, and the package variables that the reading takes, are together of bulk at most 1048576: NARROWER than '..Said'. Prove '..Said' where nothing that the law and all that it calls make is longer than what came in: it says more and counts as full. Else prove '..UptoSaid'. A law counts once. -/
mutual
def uptoBulk {H : Type} : DataW H → Nat
  | .lit (.string bytes) => bytes.length + 1
  | .lit _ => 1
  | .nil => 1
  | .ptr d => uptoBulk d + 1
  | .slice elems spare => uptoBulkAll elems + uptoBulkAll spare + 1
  | .agg parts => uptoBulkAll parts + 1
  | .iface _ d => uptoBulk d + 1
  | .map entries => uptoBulkEntries entries + 1
  | .held _ => 1
def uptoBulkAll {H : Type} : List (DataW H) → Nat
  | [] => 0
  | d :: r => uptoBulk d + uptoBulkAll r
def uptoBulkEntries {H : Type} : List (Lit × DataW H) → Nat
  | [] => 0
  | x :: r => uptoBulkEntry x + uptoBulkEntries r
def uptoBulkEntry {H : Type} : Lit × DataW H → Nat
  | (.string bytes, d) => bytes.length + uptoBulk d + 1
  | (_, d) => uptoBulk d + 1
 end
def uptoSmall : (H : Type) → List (DataW H) → Bool := fun _ ds => decide (uptoBulkAll ds ≤ 1048576)
def OpenSpec.upto (s : _root_.Go.ChangeSpec) : _root_.Go.OpenSpec := { _root_.Go.OpenSpec.ofChange s with cond := some uptoSmall }

/-- 'vitrinelaw16.OrderNames', WHERE WHAT IT READS IS OF BULK AT MOST 1048576: true; the input reads as it did. -/
def orderNamesUptoRow : OpenClaim := { program := "ytahlilogobfhcaa", sum := "1bbe275a92b9fc0c6055d9705932dbe8d97c3064fa1f1bf0d761f96d3b82794c", func := "vitrine/vitrinelaw16.OrderNames", spec := "orderNames", apart := false, narrowed := true }
def OrderNamesUptoSaid : Prop := orderNamesUptoRow.holds Try.pinned (OpenSpec.upto orderNamesSpec)

/-- 'vitrinelaw16.OrderBegins', WHERE WHAT IT READS IS OF BULK AT MOST 1048576: true; the input reads as it did. -/
def orderBeginsUptoRow : OpenClaim := { program := "ytahlilogobfhcaa", sum := "1bbe275a92b9fc0c6055d9705932dbe8d97c3064fa1f1bf0d761f96d3b82794c", func := "vitrine/vitrinelaw16.OrderBegins", spec := "orderBegins", apart := false, narrowed := true }
def OrderBeginsUptoSaid : Prop := orderBeginsUptoRow.holds Try.pinned (OpenSpec.upto orderBeginsSpec)

end Rows
end Go.Proofs.Ytahlilogobfhcaa
