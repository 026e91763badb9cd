/-
  What addr's Size methods and the reference's places compute. No condition (numbers of any size).
-/
import Derived.Test.YtahlilogobfhcaaNum
namespace Go.Proofs.Ytahlilogobfhcaa
open Go.RowKit
set_option linter.unusedVariables false
set_option linter.unusedSimpArgs false

def validB (r c : Int) : Bool := decide (1 ≤ r) && decide (r ≤ 43) && decide (1 ≤ c) && decide (c ≤ 132) && decide (r * c ≤ 3564)
def cellsN (r c : Int) : Int := if validB r c then r * c else 0
theorem valid_iff (r c : Int) : validB r c = true ↔ 1 ≤ r ∧ r ≤ 43 ∧ 1 ≤ c ∧ c ≤ 132 ∧ r * c ≤ 3564 := by simp [validB, and_assoc]
theorem mul_bd {a c k m : Int} (h0 : 0 ≤ a) (h1 : a ≤ k) (h2 : 0 ≤ c) (h3 : c ≤ m) : 0 ≤ a * c ∧ a * c ≤ k * m :=
  ⟨Int.mul_nonneg h0 h2, Int.mul_le_mul h1 h3 h2 (by omega)⟩

theorem rest_mod (n b : Int) (h : 1 ≤ b) : (if n.tmod b < 0 then n.tmod b + b else n.tmod b) = n % b := by
  have h1 := tmod_bd n b h
  have h2 := tmod_mod n b h
  split
  · rw [← h2, Int.emod_eq_of_lt (by omega) (by omega)]
  · rw [← h2, Int.add_emod_right, Int.emod_eq_of_lt (by omega) (by omega)]
end Go.Proofs.Ytahlilogobfhcaa
