/-
  A slice of bytes that stands in a struct's field, opened off a row. No condition.
-/
import Derived.Test.YtjokcfenncogkaaOpen
namespace Go.Proofs.Ytjokcfenncogkaa
open Go.ChangeShapes Go.WideShapes Go.ChangeAt Go.RowKit Go.Joins Go.Deep
set_option linter.unusedVariables false
set_option linter.unusedSimpArgs false
section
variable {H : Type} {enc : TypeId × Value → H} {P : Program} {w : World} {base : Nat} {spare : Nat → Bool} {held : Bool}
theorem open_bytes_cell {t e : TypeId} {k : IntKind} {lo hi : Int} {fuel : Nat} {v : Value} {x : DataW H × List MemPlace} (ht : P.underlying t = some (.slice e)) (he : P.underlying e = some (.int k)) (hC : P.cellsOf e = 1)
    (hwf : ∀ z : Int, (Lit.int k z).wf = true → lo ≤ z ∧ z ≤ hi) (h : DataW.trod enc P w base spare held fuel t [v] = some x) :
    ∃ (A : Option Addr) (n c : Nat), v = .slice A n c ∧ ∃ l : List Int, l.length = n ∧ n ≤ c ∧ c ≤ maxLen ∧ (∀ z ∈ l, lo ≤ z ∧ z ≤ hi) ∧ Reads w w.heap.size 1 A n (l.map (Value.int k)) := by
  rcases open_ints ht he hC h with ⟨hcs, _⟩ | ⟨a, len, cap, zs, hcs, _⟩
  · injection hcs with hcs _
    subst hcs
    exact ⟨_, _, _, rfl, open_bytes ht he hC hwf (by simpa [Value.cells] using h)⟩
  · injection hcs with hcs _
    subst hcs
    exact ⟨_, _, _, rfl, open_bytes ht he hC hwf (by simpa [Value.cells] using h)⟩
end
end Go.Proofs.Ytjokcfenncogkaa
