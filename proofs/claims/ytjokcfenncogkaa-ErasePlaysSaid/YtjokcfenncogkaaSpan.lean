/-
  Places round a screen: plain. No condition.
-/
import Derived.Test.YtjokcfenncogkaaAddr2
namespace Go.Proofs.Ytjokcfenncogkaa
open Go.RowKit
set_option linter.unusedVariables false
set_option linter.unusedSimpArgs false

/-- the first k places from a on, of m -/
def placesN (a m : Int) (k : Nat) : List Int := (List.range k).map fun i : Nat => (a + (i : Int)) % m
theorem placesN_len (a m : Int) (k : Nat) : (placesN a m k).length = k := by simp [placesN]
theorem placesN_succ (a m : Int) (k : Nat) : placesN a m (k + 1) = placesN a m k ++ [(a + (k : Int)) % m] := by simp [placesN, List.range_succ]
theorem placesN_pre (a m : Int) {j k : Nat} (h : j ≤ k) : placesN a m j <+: placesN a m k := by
  induction k with
  | zero => obtain rfl : j = 0 := by omega
            exact List.prefix_refl _
  | succ k ih =>
    rcases Nat.lt_or_ge j (k + 1) with hlt | hge
    · rw [placesN_succ]; exact (ih (by omega)).trans (List.prefix_append _ _)
    · obtain rfl : j = k + 1 := by omega
      exact List.prefix_refl _
theorem placesN_take (a m : Int) {j k : Nat} (h : j ≤ k) : (placesN a m k).take j = placesN a m j := by
  rw [placesN, ← List.map_take, List.take_range, Nat.min_eq_left h]
  rfl
theorem emod_once {x m : Int} (h0 : 0 ≤ x) (h2 : x < m) : x % m = x := Int.emod_eq_of_lt h0 h2
theorem emod_twice {x m : Int} (h0 : m ≤ x) (h2 : x < 2 * m) : x % m = x - m := by
  have h1 : (x - m) % m = x % m := Int.sub_emod_right x m
  rw [← h1]
  exact Int.emod_eq_of_lt (by omega) (by omega)
theorem emod_near {x m : Int} (h0 : 0 ≤ x) (h2 : x < 2 * m) : x % m = if x < m then x else x - m := by
  by_cases h : x < m
  · rw [if_pos h]; exact emod_once h0 h
  · rw [if_neg h]; exact emod_twice (by omega) h2
/-- where one comes to behind t steps -/
theorem step_end {f t m : Int} {n : Nat} {len : Int} (hm : 1 ≤ m) (hlen : len = if (t - f) % m = 0 then m else (t - f) % m) (h0 : 0 < n) (hn : (n : Int) ≤ len) :
    ((f % m + (n : Int)) % m = t % m ∨ (f % m + (n : Int)) % m = f % m) ↔ (n : Int) = len := by
  have ha := Int.emod_nonneg f (show m ≠ 0 by omega)
  have ha' := Int.emod_lt_of_pos f (show 0 < m by omega)
  have hd := Int.emod_nonneg (t - f) (show m ≠ 0 by omega)
  have hd' := Int.emod_lt_of_pos (t - f) (show 0 < m by omega)
  have hb : t % m = (f % m + (t - f) % m) % m := by
    rw [← Int.add_emod]
    congr 1
    omega
  rw [hb, emod_near (x := f % m + (t - f) % m) (by omega) (by omega)]
  generalize f % m = a at *
  generalize (t - f) % m = d at *
  have hnm : (n : Int) ≤ m := by
    split at hlen <;> omega
  rw [emod_near (x := a + (n : Int)) (by omega) (by omega)]
  split at hlen <;> split <;> split <;> omega
theorem len_bd {f t m len : Int} (hm : 1 ≤ m) (hlen : len = if (t - f) % m = 0 then m else (t - f) % m) : 1 ≤ len ∧ len ≤ m := by
  have hd := Int.emod_nonneg (t - f) (show m ≠ 0 by omega)
  have hd' := Int.emod_lt_of_pos (t - f) (show 0 < m by omega)
  split at hlen <;> omega
end Go.Proofs.Ytjokcfenncogkaa
