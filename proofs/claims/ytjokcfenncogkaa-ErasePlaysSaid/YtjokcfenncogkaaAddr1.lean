/-
  What addr's Size methods and the reference's places compute. No condition (numbers of any size).
-/
import Derived.Test.YtjokcfenncogkaaNum
namespace Go.Proofs.Ytjokcfenncogkaa
open Go.RowKit
set_option linter.unusedVariables false
set_option linter.unusedSimpArgs false

def validB (r c : Int) : Bool := decide (1 ≤ r) && decide (r ≤ 43) && decide (1 ≤ c) && decide (c ≤ 132) && decide (r * c ≤ 3564)
def cellsN (r c : Int) : Int := if validB r c then r * c else 0
theorem valid_iff (r c : Int) : validB r c = true ↔ 1 ≤ r ∧ r ≤ 43 ∧ 1 ≤ c ∧ c ≤ 132 ∧ r * c ≤ 3564 := by simp [validB, and_assoc]
theorem mul_bd {a c k m : Int} (h0 : 0 ≤ a) (h1 : a ≤ k) (h2 : 0 ≤ c) (h3 : c ≤ m) : 0 ≤ a * c ∧ a * c ≤ k * m :=
  ⟨Int.mul_nonneg h0 h2, Int.mul_le_mul h1 h3 h2 (by omega)⟩

set_option maxHeartbeats 800000 in
theorem valid_any (r c : Int) (w : World) :
    Calls Try.prog 114 #[.agg #[.int .i64 r, .int .i64 c]] w fun e w' => e = .returned (.bool (validB r c)) ∧ Up w w' := by
  by_cases h : 1 ≤ r ∧ r ≤ 43 ∧ 1 ≤ c ∧ c ≤ 132
  · obtain ⟨h0, h1, h2, h3⟩ := h
    have hm := mul_bd (a := r) (c := c) (k := 43) (m := 132) (by omega) h1 (by omega) h3
    have hv : validB r c = decide (r * c ≤ 3564) := by simp [validB, h0, h1, h2, h3]
    rw [hv]
    go_enter Try.func114, Try.ntmps114
    go_wp2
    all_goals
      go_ret
      exact ⟨ret_bool (by first | rfl | simp_all), by (repeat (first | with_reducible exact Up.refl _ | with_reducible refine Up.alloc ?_ _ | with_reducible refine Up.drew ?_ | with_reducible refine Up.drewN ?_ _ | with_reducible refine Up.setCell ?_ (by (try simp) <;> omega) _ | with_reducible assumption | with_reducible refine Up.trans ?_ (by assumption)))⟩
  · have hv : validB r c = false := by
      rw [Bool.eq_false_iff]
      intro hv
      exact h (by have := (valid_iff r c).1 hv; omega)
    rw [hv]
    rcases (show r < 1 ∨ (1 ≤ r ∧ 43 < r) ∨ (1 ≤ r ∧ r ≤ 43 ∧ c < 1) ∨ (1 ≤ r ∧ r ≤ 43 ∧ 1 ≤ c ∧ 132 < c) by omega) with h | ⟨h, h'⟩ | ⟨h, h', h''⟩ | ⟨h, h', h'', h'''⟩
    all_goals
      go_enter Try.func114, Try.ntmps114
      go_wp2
      go_ret
      exact ⟨rfl, by (repeat (first | with_reducible exact Up.refl _ | with_reducible refine Up.alloc ?_ _ | with_reducible refine Up.drew ?_ | with_reducible refine Up.drewN ?_ _ | with_reducible refine Up.setCell ?_ (by (try simp) <;> omega) _ | with_reducible assumption | with_reducible refine Up.trans ?_ (by assumption)))⟩
theorem valid_is {r c : Int} {b : Bool} (h : validB r c = b) (w : World) :
    Calls Try.prog 114 #[.agg #[.int .i64 r, .int .i64 c]] w fun e w' => e = .returned (.bool b) ∧ Up w w' := by
  rw [← h]; exact valid_any r c w

set_option maxHeartbeats 800000 in
theorem ref_valid_any (r c : Int) (w : World) :
    Calls Try.prog 161 #[.agg #[.int .i64 r, .int .i64 c]] w fun e w' => e = .returned (.bool (validB r c)) ∧ Up w w' := by
  by_cases h : 1 ≤ r ∧ r ≤ 43 ∧ 1 ≤ c ∧ c ≤ 132
  · obtain ⟨h0, h1, h2, h3⟩ := h
    have hm := mul_bd (a := r) (c := c) (k := 43) (m := 132) (by omega) h1 (by omega) h3
    have hv : validB r c = decide (r * c ≤ 3564) := by simp [validB, h0, h1, h2, h3]
    rw [hv]
    go_enter Try.func161, Try.ntmps161
    go_wp2
    all_goals
      go_ret
      exact ⟨ret_bool (by first | rfl | simp_all), by (repeat (first | with_reducible exact Up.refl _ | with_reducible refine Up.alloc ?_ _ | with_reducible refine Up.drew ?_ | with_reducible refine Up.drewN ?_ _ | with_reducible refine Up.setCell ?_ (by (try simp) <;> omega) _ | with_reducible assumption | with_reducible refine Up.trans ?_ (by assumption)))⟩
  · have hv : validB r c = false := by
      rw [Bool.eq_false_iff]
      intro hv
      exact h (by have := (valid_iff r c).1 hv; omega)
    rw [hv]
    rcases (show r < 1 ∨ (1 ≤ r ∧ 43 < r) ∨ (1 ≤ r ∧ r ≤ 43 ∧ c < 1) ∨ (1 ≤ r ∧ r ≤ 43 ∧ 1 ≤ c ∧ 132 < c) by omega) with h | ⟨h, h'⟩ | ⟨h, h', h''⟩ | ⟨h, h', h'', h'''⟩
    all_goals
      go_enter Try.func161, Try.ntmps161
      go_wp2
      go_ret
      exact ⟨rfl, by (repeat (first | with_reducible exact Up.refl _ | with_reducible refine Up.alloc ?_ _ | with_reducible refine Up.drew ?_ | with_reducible refine Up.drewN ?_ _ | with_reducible refine Up.setCell ?_ (by (try simp) <;> omega) _ | with_reducible assumption | with_reducible refine Up.trans ?_ (by assumption)))⟩
theorem ref_valid_is {r c : Int} {b : Bool} (h : validB r c = b) (w : World) :
    Calls Try.prog 161 #[.agg #[.int .i64 r, .int .i64 c]] w fun e w' => e = .returned (.bool b) ∧ Up w w' := by
  rw [← h]; exact ref_valid_any r c w

set_option maxHeartbeats 800000 in
theorem cells_bad (r c : Int) (w : World) (h : validB r c = false) :
    Calls Try.prog 26 #[.agg #[.int .i64 r, .int .i64 c]] w fun e w' => e = .returned (.int .i64 0) ∧ Up w w' := by
  go_enter Try.func26, Try.ntmps26
  go_wp2_with fail
  refine (valid_is h _).mono ?_
  rintro e w1 ⟨rfl, hb_w1⟩
  have hu_w1 : Up w w1 := by (repeat (first | with_reducible exact Up.refl _ | with_reducible refine Up.alloc ?_ _ | with_reducible refine Up.drew ?_ | with_reducible refine Up.drewN ?_ _ | with_reducible refine Up.setCell ?_ (by (try simp) <;> omega) _ | with_reducible assumption | with_reducible refine Up.trans ?_ (by assumption)))
  have hz_w1 := Up.size hb_w1
  try simp at hz_w1
  obtain ⟨bd_w1_0, be_w1_0⟩ := hb_w1.at_ (w.heap.size) (by (try simp) <;> omega)
  have zb_w1_0 : w.heap.size < w1.heap.size := by omega
  go_wp2_with fail
  go_ret
  exact ⟨rfl, by (repeat (first | with_reducible exact Up.refl _ | with_reducible refine Up.alloc ?_ _ | with_reducible refine Up.drew ?_ | with_reducible refine Up.drewN ?_ _ | with_reducible refine Up.setCell ?_ (by (try simp) <;> omega) _ | with_reducible assumption | with_reducible refine Up.trans ?_ (by assumption)))⟩
set_option maxHeartbeats 800000 in
theorem cells_good (r c : Int) (w : World) (h : validB r c = true) :
    Calls Try.prog 26 #[.agg #[.int .i64 r, .int .i64 c]] w fun e w' => e = .returned (.int .i64 (r * c)) ∧ Up w w' := by
  obtain ⟨h0, h1, h2, h3, h4⟩ := (valid_iff r c).1 h
  have hm := mul_bd (a := r) (c := c) (k := 43) (m := 132) (by omega) h1 (by omega) h3
  go_enter Try.func26, Try.ntmps26
  go_wp2_with fail
  refine (valid_is h _).mono ?_
  rintro e w1 ⟨rfl, hb_w1⟩
  have hu_w1 : Up w w1 := by (repeat (first | with_reducible exact Up.refl _ | with_reducible refine Up.alloc ?_ _ | with_reducible refine Up.drew ?_ | with_reducible refine Up.drewN ?_ _ | with_reducible refine Up.setCell ?_ (by (try simp) <;> omega) _ | with_reducible assumption | with_reducible refine Up.trans ?_ (by assumption)))
  have hz_w1 := Up.size hb_w1
  try simp at hz_w1
  obtain ⟨bd_w1_0, be_w1_0⟩ := hb_w1.at_ (w.heap.size) (by (try simp) <;> omega)
  have zb_w1_0 : w.heap.size < w1.heap.size := by omega
  go_wp2_with fail
  go_ret
  exact ⟨rfl, by (repeat (first | with_reducible exact Up.refl _ | with_reducible refine Up.alloc ?_ _ | with_reducible refine Up.drew ?_ | with_reducible refine Up.drewN ?_ _ | with_reducible refine Up.setCell ?_ (by (try simp) <;> omega) _ | with_reducible assumption | with_reducible refine Up.trans ?_ (by assumption)))⟩
set_option maxHeartbeats 800000 in
theorem ref_cells_bad (r c : Int) (w : World) (h : validB r c = false) :
    Calls Try.prog 152 #[.agg #[.int .i64 r, .int .i64 c]] w fun e w' => e = .returned (.int .i64 0) ∧ Up w w' := by
  go_enter Try.func152, Try.ntmps152
  go_wp2_with fail
  refine (ref_valid_is h _).mono ?_
  rintro e w1 ⟨rfl, hb_w1⟩
  have hu_w1 : Up w w1 := by (repeat (first | with_reducible exact Up.refl _ | with_reducible refine Up.alloc ?_ _ | with_reducible refine Up.drew ?_ | with_reducible refine Up.drewN ?_ _ | with_reducible refine Up.setCell ?_ (by (try simp) <;> omega) _ | with_reducible assumption | with_reducible refine Up.trans ?_ (by assumption)))
  have hz_w1 := Up.size hb_w1
  try simp at hz_w1
  obtain ⟨bd_w1_0, be_w1_0⟩ := hb_w1.at_ (w.heap.size) (by (try simp) <;> omega)
  have zb_w1_0 : w.heap.size < w1.heap.size := by omega
  go_wp2_with fail
  go_ret
  exact ⟨rfl, by (repeat (first | with_reducible exact Up.refl _ | with_reducible refine Up.alloc ?_ _ | with_reducible refine Up.drew ?_ | with_reducible refine Up.drewN ?_ _ | with_reducible refine Up.setCell ?_ (by (try simp) <;> omega) _ | with_reducible assumption | with_reducible refine Up.trans ?_ (by assumption)))⟩
set_option maxHeartbeats 800000 in
theorem ref_cells_good (r c : Int) (w : World) (h : validB r c = true) :
    Calls Try.prog 152 #[.agg #[.int .i64 r, .int .i64 c]] w fun e w' => e = .returned (.int .i64 (r * c)) ∧ Up w w' := by
  obtain ⟨h0, h1, h2, h3, h4⟩ := (valid_iff r c).1 h
  have hm := mul_bd (a := r) (c := c) (k := 43) (m := 132) (by omega) h1 (by omega) h3
  go_enter Try.func152, Try.ntmps152
  go_wp2_with fail
  refine (ref_valid_is h _).mono ?_
  rintro e w1 ⟨rfl, hb_w1⟩
  have hu_w1 : Up w w1 := by (repeat (first | with_reducible exact Up.refl _ | with_reducible refine Up.alloc ?_ _ | with_reducible refine Up.drew ?_ | with_reducible refine Up.drewN ?_ _ | with_reducible refine Up.setCell ?_ (by (try simp) <;> omega) _ | with_reducible assumption | with_reducible refine Up.trans ?_ (by assumption)))
  have hz_w1 := Up.size hb_w1
  try simp at hz_w1
  obtain ⟨bd_w1_0, be_w1_0⟩ := hb_w1.at_ (w.heap.size) (by (try simp) <;> omega)
  have zb_w1_0 : w.heap.size < w1.heap.size := by omega
  go_wp2_with fail
  go_ret
  exact ⟨rfl, by (repeat (first | with_reducible exact Up.refl _ | with_reducible refine Up.alloc ?_ _ | with_reducible refine Up.drew ?_ | with_reducible refine Up.drewN ?_ _ | with_reducible refine Up.setCell ?_ (by (try simp) <;> omega) _ | with_reducible assumption | with_reducible refine Up.trans ?_ (by assumption)))⟩

theorem rest_mod (n b : Int) (h : 1 ≤ b) : (if n.tmod b < 0 then n.tmod b + b else n.tmod b) = n % b := by
  have h1 := tmod_bd n b h
  have h2 := tmod_mod n b h
  split
  · rw [← h2, Int.emod_eq_of_lt (by omega) (by omega)]
  · rw [← h2, Int.add_emod_right, Int.emod_eq_of_lt (by omega) (by omega)]
set_option maxHeartbeats 800000 in
theorem rest_any (n b : Int) (w : World) (h : 1 ≤ b) (hb : b ≤ 4611686018427387904) :
    Calls Try.prog 153 #[.int .i64 n, .int .i64 b] w fun e w' => e = .returned (.int .i64 (n % b)) ∧ w = w' := by
  have hbd := tmod_bd n b h
  have hz : (b == 0) = false := by simp; omega
  have hr := rest_mod n b h
  have HR := Lib.hid hr
  clear hr
  go_enter Try.func153, Try.ntmps153
  go_wp2
  · go_ret
    exact ⟨ret_int (by rw [← HR.out, if_pos (by assumption)]), rfl⟩
  · go_ret
    exact ⟨ret_int (by rw [← HR.out, if_neg (by omega)]), rfl⟩

set_option maxHeartbeats 800000 in
theorem wrap_bad (r c n : Int) (w : World) (h : validB r c = false) :
    Calls Try.prog 112 #[.agg #[.int .i64 r, .int .i64 c], .int .i64 n] w fun e w' => e = .returned (.int .i64 0) ∧ Up w w' := by
  go_enter Try.func112, Try.ntmps112
  go_wp2_with fail
  refine (valid_is h _).mono ?_
  rintro e w1 ⟨rfl, hb_w1⟩
  have hu_w1 : Up w w1 := by (repeat (first | with_reducible exact Up.refl _ | with_reducible refine Up.alloc ?_ _ | with_reducible refine Up.drew ?_ | with_reducible refine Up.drewN ?_ _ | with_reducible refine Up.setCell ?_ (by (try simp) <;> omega) _ | with_reducible assumption | with_reducible refine Up.trans ?_ (by assumption)))
  have hz_w1 := Up.size hb_w1
  try simp at hz_w1
  obtain ⟨bd_w1_0, be_w1_0⟩ := hb_w1.at_ (w.heap.size) (by (try simp) <;> omega)
  have zb_w1_0 : w.heap.size < w1.heap.size := by omega
  go_wp2_with fail
  go_ret
  exact ⟨rfl, by (repeat (first | with_reducible exact Up.refl _ | with_reducible refine Up.alloc ?_ _ | with_reducible refine Up.drew ?_ | with_reducible refine Up.drewN ?_ _ | with_reducible refine Up.setCell ?_ (by (try simp) <;> omega) _ | with_reducible assumption | with_reducible refine Up.trans ?_ (by assumption)))⟩
set_option maxHeartbeats 800000 in
theorem wrap_good (r c n : Int) (w : World) (h : validB r c = true) :
    Calls Try.prog 112 #[.agg #[.int .i64 r, .int .i64 c], .int .i64 n] w fun e w' => e = .returned (.int .i64 (n % (r * c))) ∧ Up w w' := by
  obtain ⟨h0, h1, h2, h3, h4⟩ := (valid_iff r c).1 h
  have hm : 1 ≤ r * c := by
    have := Int.mul_le_mul h0 h2 (by omega) (by omega)
    simpa using this
  go_enter Try.func112, Try.ntmps112
  go_wp2_with fail
  refine (valid_is h _).mono ?_
  rintro e w1 ⟨rfl, hb_w1⟩
  have hu_w1 : Up w w1 := by (repeat (first | with_reducible exact Up.refl _ | with_reducible refine Up.alloc ?_ _ | with_reducible refine Up.drew ?_ | with_reducible refine Up.drewN ?_ _ | with_reducible refine Up.setCell ?_ (by (try simp) <;> omega) _ | with_reducible assumption | with_reducible refine Up.trans ?_ (by assumption)))
  have hz_w1 := Up.size hb_w1
  try simp at hz_w1
  obtain ⟨bd_w1_0, be_w1_0⟩ := hb_w1.at_ (w.heap.size) (by (try simp) <;> omega)
  have zb_w1_0 : w.heap.size < w1.heap.size := by omega
  go_wp2_with fail
  refine (cells_good _ _ _ h).mono ?_
  rintro e w2 ⟨rfl, hb_w2⟩
  have hu_w2 : Up w1 w2 := by (repeat (first | with_reducible exact Up.refl _ | with_reducible refine Up.alloc ?_ _ | with_reducible refine Up.drew ?_ | with_reducible refine Up.drewN ?_ _ | with_reducible refine Up.setCell ?_ (by (try simp) <;> omega) _ | with_reducible assumption | with_reducible refine Up.trans ?_ (by assumption)))
  have hz_w2 := Up.size hb_w2
  try simp at hz_w2
  obtain ⟨bc_w2_0, bf_w2_0⟩ := hu_w2.at_ (w.heap.size) (by omega)
  have zb_w2_0 : w.heap.size < w2.heap.size := by omega
  go_wp2_with fail
  refine (rest_any _ _ _ hm (by omega)).mono ?_
  rintro e w' ⟨rfl, rfl⟩
  go_wp2
  go_ret
  exact ⟨rfl, by (repeat (first | with_reducible exact Up.refl _ | with_reducible refine Up.alloc ?_ _ | with_reducible refine Up.drew ?_ | with_reducible refine Up.drewN ?_ _ | with_reducible refine Up.setCell ?_ (by (try simp) <;> omega) _ | with_reducible assumption | with_reducible refine Up.trans ?_ (by assumption)))⟩
end Go.Proofs.Ytjokcfenncogkaa
