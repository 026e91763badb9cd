/-
What the references' Num (digits to the base 16), Mod and Six compute. Of Num: texts of at most 4 signs. Of Mod: a divisor up to 2^62.
What addr's Size methods and the reference's places compute. No condition (numbers of any size).
What addr's Size methods At, Row, Col, Move, Line, Length and the reference's Wrap, At, Move compute. No condition (numbers of any size).
Places round a screen: plain. No condition.
What the field attribute's functions compute (program and reference): Bits, Byte, Of, Skipped, Hidden, Detectable, and the reference's Six. No condition.
-/
import Derived.Test.YtamfjgioajmnpaaGreatDoorJa2
namespace Go.Proofs.YtamfjgioajmnpaaGreatDoor
open Go.RowKit
set_option linter.unusedVariables false

theorem tmod_bd (n b : Int) (h : 1 ≤ b) : -b < n.tmod b ∧ n.tmod b < b := by
  have h1 := Int.tmod_lt_of_pos n (show 0 < b by omega)
  have h2 := Int.lt_tmod_of_pos n (show 0 < b by omega)
  omega
theorem tmod_mod (n b : Int) (h : 1 ≤ b) : (n.tmod b + b) % b = n % b := by
  rw [Int.add_emod_right]
  rw [Int.tmod_eq_emod]
  split
  · simp
  · rw [show ((b.natAbs : Nat) : Int) = b by omega]
    simp

end Go.Proofs.YtamfjgioajmnpaaGreatDoor
namespace Go.Proofs.YtamfjgioajmnpaaGreatDoor
open Go.RowKit
set_option linter.unusedVariables false
set_option linter.unusedSimpArgs false

def validB (r c : Int) : Bool := decide (1 ≤ r) && decide (r ≤ 43) && decide (1 ≤ c) && decide (c ≤ 132) && decide (r * c ≤ 3564)
theorem valid_iff (r c : Int) : validB r c = true ↔ 1 ≤ r ∧ r ≤ 43 ∧ 1 ≤ c ∧ c ≤ 132 ∧ r * c ≤ 3564 := by simp [validB, and_assoc]
theorem mul_bd {a c k m : Int} (h0 : 0 ≤ a) (h1 : a ≤ k) (h2 : 0 ≤ c) (h3 : c ≤ m) : 0 ≤ a * c ∧ a * c ≤ k * m :=
  ⟨Int.mul_nonneg h0 h2, Int.mul_le_mul h1 h3 h2 (by omega)⟩

set_option maxHeartbeats 800000 in
theorem valid_any (r c : Int) (w : World) :
    Calls Tryz.prog 114 #[.agg #[.int .i64 r, .int .i64 c]] w fun e w' => e = .returned (.bool (validB r c)) ∧ Up w w' := by
  by_cases h : 1 ≤ r ∧ r ≤ 43 ∧ 1 ≤ c ∧ c ≤ 132
  · obtain ⟨h0, h1, h2, h3⟩ := h
    have hm := mul_bd (a := r) (c := c) (k := 43) (m := 132) (by omega) h1 (by omega) h3
    have hv : validB r c = decide (r * c ≤ 3564) := by simp [validB, h0, h1, h2, h3]
    rw [hv]
    go_enter Tryz.func114, Tryz.ntmps114
    go_wp2
    all_goals
      go_ret
      exact ⟨ret_bool (by first | rfl | simp_all), by (repeat (first | with_reducible exact Up.refl _ | with_reducible refine Up.alloc ?_ _ | with_reducible refine Up.drew ?_ | with_reducible refine Up.drewN ?_ _ | with_reducible refine Up.setCell ?_ (by (try simp) <;> omega) _ | with_reducible assumption | with_reducible refine Up.trans ?_ (by assumption)))⟩
  · have hv : validB r c = false := by
      rw [Bool.eq_false_iff]
      intro hv
      exact h (by have := (valid_iff r c).1 hv; omega)
    rw [hv]
    rcases (show r < 1 ∨ (1 ≤ r ∧ 43 < r) ∨ (1 ≤ r ∧ r ≤ 43 ∧ c < 1) ∨ (1 ≤ r ∧ r ≤ 43 ∧ 1 ≤ c ∧ 132 < c) by omega) with h | ⟨h, h'⟩ | ⟨h, h', h''⟩ | ⟨h, h', h'', h'''⟩
    all_goals
      go_enter Tryz.func114, Tryz.ntmps114
      go_wp2
      go_ret
      exact ⟨rfl, by (repeat (first | with_reducible exact Up.refl _ | with_reducible refine Up.alloc ?_ _ | with_reducible refine Up.drew ?_ | with_reducible refine Up.drewN ?_ _ | with_reducible refine Up.setCell ?_ (by (try simp) <;> omega) _ | with_reducible assumption | with_reducible refine Up.trans ?_ (by assumption)))⟩
theorem valid_is {r c : Int} {b : Bool} (h : validB r c = b) (w : World) :
    Calls Tryz.prog 114 #[.agg #[.int .i64 r, .int .i64 c]] w fun e w' => e = .returned (.bool b) ∧ Up w w' := by
  rw [← h]; exact valid_any r c w

set_option maxHeartbeats 800000 in
theorem cells_good (r c : Int) (w : World) (h : validB r c = true) :
    Calls Tryz.prog 62 #[.agg #[.int .i64 r, .int .i64 c]] w fun e w' => e = .returned (.int .i64 (r * c)) ∧ Up w w' := by
  obtain ⟨h0, h1, h2, h3, h4⟩ := (valid_iff r c).1 h
  have hm := mul_bd (a := r) (c := c) (k := 43) (m := 132) (by omega) h1 (by omega) h3
  go_enter Tryz.func62, Tryz.ntmps62
  go_wp2_with fail
  refine (valid_is h _).mono ?_
  rintro e w1 ⟨rfl, hb_w1⟩
  have hu_w1 : Up w w1 := by (repeat (first | with_reducible exact Up.refl _ | with_reducible refine Up.alloc ?_ _ | with_reducible refine Up.drew ?_ | with_reducible refine Up.drewN ?_ _ | with_reducible refine Up.setCell ?_ (by (try simp) <;> omega) _ | with_reducible assumption | with_reducible refine Up.trans ?_ (by assumption)))
  have hz_w1 := Up.size hb_w1
  try simp at hz_w1
  obtain ⟨bd_w1_0, be_w1_0⟩ := hb_w1.at_ (w.heap.size) (by (try simp) <;> omega)
  have zb_w1_0 : w.heap.size < w1.heap.size := by omega
  go_wp2_with fail
  go_ret
  exact ⟨rfl, by (repeat (first | with_reducible exact Up.refl _ | with_reducible refine Up.alloc ?_ _ | with_reducible refine Up.drew ?_ | with_reducible refine Up.drewN ?_ _ | with_reducible refine Up.setCell ?_ (by (try simp) <;> omega) _ | with_reducible assumption | with_reducible refine Up.trans ?_ (by assumption)))⟩
theorem rest_mod (n b : Int) (h : 1 ≤ b) : (if n.tmod b < 0 then n.tmod b + b else n.tmod b) = n % b := by
  have h1 := tmod_bd n b h
  have h2 := tmod_mod n b h
  split
  · rw [← h2, Int.emod_eq_of_lt (by omega) (by omega)]
  · rw [← h2, Int.add_emod_right, Int.emod_eq_of_lt (by omega) (by omega)]
set_option maxHeartbeats 800000 in
theorem rest_any (n b : Int) (w : World) (h : 1 ≤ b) (hb : b ≤ 4611686018427387904) :
    Calls Tryz.prog 129 #[.int .i64 n, .int .i64 b] w fun e w' => e = .returned (.int .i64 (n % b)) ∧ w = w' := by
  have hbd := tmod_bd n b h
  have hz : (b == 0) = false := by simp; omega
  have hr := rest_mod n b h
  have HR := Lib.hid hr
  clear hr
  go_enter Tryz.func129, Tryz.ntmps129
  go_wp2
  · go_ret
    exact ⟨ret_int (by rw [← HR.out, if_pos (by assumption)]), rfl⟩
  · go_ret
    exact ⟨ret_int (by rw [← HR.out, if_neg (by omega)]), rfl⟩

set_option maxHeartbeats 800000 in
theorem wrap_good (r c n : Int) (w : World) (h : validB r c = true) :
    Calls Tryz.prog 89 #[.agg #[.int .i64 r, .int .i64 c], .int .i64 n] w fun e w' => e = .returned (.int .i64 (n % (r * c))) ∧ Up w w' := by
  obtain ⟨h0, h1, h2, h3, h4⟩ := (valid_iff r c).1 h
  have hm : 1 ≤ r * c := by
    have := Int.mul_le_mul h0 h2 (by omega) (by omega)
    simpa using this
  go_enter Tryz.func89, Tryz.ntmps89
  go_wp2_with fail
  refine (valid_is h _).mono ?_
  rintro e w1 ⟨rfl, hb_w1⟩
  have hu_w1 : Up w w1 := by (repeat (first | with_reducible exact Up.refl _ | with_reducible refine Up.alloc ?_ _ | with_reducible refine Up.drew ?_ | with_reducible refine Up.drewN ?_ _ | with_reducible refine Up.setCell ?_ (by (try simp) <;> omega) _ | with_reducible assumption | with_reducible refine Up.trans ?_ (by assumption)))
  have hz_w1 := Up.size hb_w1
  try simp at hz_w1
  obtain ⟨bd_w1_0, be_w1_0⟩ := hb_w1.at_ (w.heap.size) (by (try simp) <;> omega)
  have zb_w1_0 : w.heap.size < w1.heap.size := by omega
  go_wp2_with fail
  refine (cells_good _ _ _ h).mono ?_
  rintro e w2 ⟨rfl, hb_w2⟩
  have hu_w2 : Up w1 w2 := by (repeat (first | with_reducible exact Up.refl _ | with_reducible refine Up.alloc ?_ _ | with_reducible refine Up.drew ?_ | with_reducible refine Up.drewN ?_ _ | with_reducible refine Up.setCell ?_ (by (try simp) <;> omega) _ | with_reducible assumption | with_reducible refine Up.trans ?_ (by assumption)))
  have hz_w2 := Up.size hb_w2
  try simp at hz_w2
  obtain ⟨bc_w2_0, bf_w2_0⟩ := hu_w2.at_ (w.heap.size) (by omega)
  have zb_w2_0 : w.heap.size < w2.heap.size := by omega
  go_wp2_with fail
  refine (rest_any _ _ _ hm (by omega)).mono ?_
  rintro e w' ⟨rfl, rfl⟩
  go_wp2
  go_ret
  exact ⟨rfl, by (repeat (first | with_reducible exact Up.refl _ | with_reducible refine Up.alloc ?_ _ | with_reducible refine Up.drew ?_ | with_reducible refine Up.drewN ?_ _ | with_reducible refine Up.setCell ?_ (by (try simp) <;> omega) _ | with_reducible assumption | with_reducible refine Up.trans ?_ (by assumption)))⟩
end Go.Proofs.YtamfjgioajmnpaaGreatDoor
namespace Go.Proofs.YtamfjgioajmnpaaGreatDoor
open Go.RowKit
set_option linter.unusedVariables false
set_option linter.unusedSimpArgs false

def atN (r c row col : Int) : Int := row % r * c + col % c
def moveM (r c n cols : Int) : Int := (n % (r * c) + cols % (r * c)) % (r * c)
def moveN (r c n rows cols : Int) : Int := atN r c (moveM r c n cols / c + rows % r) (moveM r c n cols % c)
/-- what a valid size gives -/
theorem valid_facts {r c : Int} (h : validB r c = true) : 1 ≤ r ∧ r ≤ 43 ∧ 1 ≤ c ∧ c ≤ 132 ∧ 1 ≤ r * c ∧ r * c ≤ 3564 := by
  obtain ⟨h0, h1, h2, h3, h4⟩ := (valid_iff r c).1 h
  have hm : 1 ≤ r * c := by
    have := Int.mul_le_mul h0 h2 (by omega) (by omega)
    simpa using this
  exact ⟨h0, h1, h2, h3, hm, h4⟩
theorem mod_facts (n b : Int) (h : 1 ≤ b) : 0 ≤ n % b ∧ n % b < b := ⟨Int.emod_nonneg n (by omega), Int.emod_lt_of_pos n (by omega)⟩
theorem atN_bd {r c : Int} (h : validB r c = true) (row col : Int) : 0 ≤ atN r c row col ∧ atN r c row col < r * c := by
  obtain ⟨h0, h1, h2, h3, h4, h5⟩ := valid_facts h
  have hr := mod_facts row r h0
  have hc := mod_facts col c h2
  have hm := Int.mul_nonneg hr.1 (show 0 ≤ c by omega)
  have hu : row % r * c ≤ (r - 1) * c := Int.mul_le_mul_of_nonneg_right (by omega) (by omega)
  rw [Int.sub_mul, Int.one_mul] at hu
  unfold atN
  omega

set_option maxHeartbeats 800000 in
theorem at_good (r c row col : Int) (w : World) (h : validB r c = true) :
    Calls Tryz.prog 292 #[.agg #[.int .i64 r, .int .i64 c], .int .i64 row, .int .i64 col] w fun e w' => e = .returned (.int .i64 (atN r c row col)) ∧ Up w w' := by
  obtain ⟨h0, h1, h2, h3, h4, h5⟩ := valid_facts h
  have hb := atN_bd h row col
  have hq := mod_facts row r h0
  have hp := mod_facts col c h2
  have hm := mul_bd (a := row % r) (c := c) (k := 42) (m := 132) hq.1 (by omega) (by omega) h3
  unfold atN at *
  go_enter Tryz.func292, Tryz.ntmps292
  go_wp2_with fail
  refine (valid_is h _).mono ?_
  rintro e w1 ⟨rfl, hb_w1⟩
  have hu_w1 : Up w w1 := by (repeat (first | with_reducible exact Up.refl _ | with_reducible refine Up.alloc ?_ _ | with_reducible refine Up.drew ?_ | with_reducible refine Up.drewN ?_ _ | with_reducible refine Up.setCell ?_ (by (try simp) <;> omega) _ | with_reducible assumption | with_reducible refine Up.trans ?_ (by assumption)))
  have hz_w1 := Up.size hb_w1
  try simp at hz_w1
  obtain ⟨bd_w1_0, be_w1_0⟩ := hb_w1.at_ (w.heap.size) (by (try simp) <;> omega)
  have zb_w1_0 : w.heap.size < w1.heap.size := by omega
  go_wp2_with fail
  refine wp_region_up_lit (by kernel_rfl) (by kernel_rfl) ?_
  repeat (go_big_quiet_step ((go_at_call 129; exact up_same (rest_any _ _ _ (by omega) (by omega)))))
  refine wpQuiet_nil ?_
  rintro w2 ⟨W_w2, hw_w2⟩
  have hb_w2 : Up _ w2 := hw_w2 ▸ up_upOf _ _
  clear hw_w2 W_w2
  have hu_w2 : Up w1 w2 := by (repeat (first | with_reducible exact Up.refl _ | with_reducible refine Up.alloc ?_ _ | with_reducible refine Up.drew ?_ | with_reducible refine Up.drewN ?_ _ | with_reducible refine Up.setCell ?_ (by (try simp) <;> omega) _ | with_reducible assumption | with_reducible refine Up.trans ?_ (by assumption)))
  have hz_w2 := Up.size hb_w2
  try simp at hz_w2
  obtain ⟨bc_w2_0, bf_w2_0⟩ := hu_w2.at_ (w.heap.size) (by omega)
  have zb_w2_0 : w.heap.size < w2.heap.size := by omega
  go_wp2_with fail
  go_ret
  exact ⟨rfl, by (repeat (first | with_reducible exact Up.refl _ | with_reducible refine Up.alloc ?_ _ | with_reducible refine Up.drew ?_ | with_reducible refine Up.drewN ?_ _ | with_reducible refine Up.setCell ?_ (by (try simp) <;> omega) _ | with_reducible assumption | with_reducible refine Up.trans ?_ (by assumption)))⟩

set_option maxHeartbeats 800000 in
theorem row_good (r c n : Int) (w : World) (h : validB r c = true) :
    Calls Tryz.prog 293 #[.agg #[.int .i64 r, .int .i64 c], .int .i64 n] w fun e w' => e = .returned (.int .i64 (n % (r * c) / c)) ∧ Up w w' := by
  obtain ⟨h0, h1, h2, h3, h4, h5⟩ := valid_facts h
  have hq := mod_facts n (r * c) h4
  have hz : (c == 0) = false := by simp; omega
  go_enter Tryz.func293, Tryz.ntmps293
  go_wp2_with fail
  refine (valid_is h _).mono ?_
  rintro e w1 ⟨rfl, hb_w1⟩
  have hu_w1 : Up w w1 := by (repeat (first | with_reducible exact Up.refl _ | with_reducible refine Up.alloc ?_ _ | with_reducible refine Up.drew ?_ | with_reducible refine Up.drewN ?_ _ | with_reducible refine Up.setCell ?_ (by (try simp) <;> omega) _ | with_reducible assumption | with_reducible refine Up.trans ?_ (by assumption)))
  have hz_w1 := Up.size hb_w1
  try simp at hz_w1
  obtain ⟨bd_w1_0, be_w1_0⟩ := hb_w1.at_ (w.heap.size) (by (try simp) <;> omega)
  have zb_w1_0 : w.heap.size < w1.heap.size := by omega
  go_wp2_with fail
  refine wp_region_up_lit (by kernel_rfl) (by kernel_rfl) ?_
  repeat (go_big_quiet_step ((go_at_call 89; exact up_call (wrap_good _ _ _ _ h))))
  refine wpQuiet_nil ?_
  rintro w2 ⟨W_w2, hw_w2⟩
  have hb_w2 : Up _ w2 := hw_w2 ▸ up_upOf _ _
  clear hw_w2 W_w2
  have hu_w2 : Up w1 w2 := by (repeat (first | with_reducible exact Up.refl _ | with_reducible refine Up.alloc ?_ _ | with_reducible refine Up.drew ?_ | with_reducible refine Up.drewN ?_ _ | with_reducible refine Up.setCell ?_ (by (try simp) <;> omega) _ | with_reducible assumption | with_reducible refine Up.trans ?_ (by assumption)))
  have hz_w2 := Up.size hb_w2
  try simp at hz_w2
  obtain ⟨bc_w2_0, bf_w2_0⟩ := hu_w2.at_ (w.heap.size) (by omega)
  have zb_w2_0 : w.heap.size < w2.heap.size := by omega
  go_wp2_with fail
  go_ret
  exact ⟨rfl, by (repeat (first | with_reducible exact Up.refl _ | with_reducible refine Up.alloc ?_ _ | with_reducible refine Up.drew ?_ | with_reducible refine Up.drewN ?_ _ | with_reducible refine Up.setCell ?_ (by (try simp) <;> omega) _ | with_reducible assumption | with_reducible refine Up.trans ?_ (by assumption)))⟩

set_option maxHeartbeats 800000 in
theorem col_good (r c n : Int) (w : World) (h : validB r c = true) :
    Calls Tryz.prog 294 #[.agg #[.int .i64 r, .int .i64 c], .int .i64 n] w fun e w' => e = .returned (.int .i64 (n % (r * c) % c)) ∧ Up w w' := by
  obtain ⟨h0, h1, h2, h3, h4, h5⟩ := valid_facts h
  have hq := mod_facts n (r * c) h4
  have hz : (c == 0) = false := by simp; omega
  go_enter Tryz.func294, Tryz.ntmps294
  go_wp2_with fail
  refine (valid_is h _).mono ?_
  rintro e w1 ⟨rfl, hb_w1⟩
  have hu_w1 : Up w w1 := by (repeat (first | with_reducible exact Up.refl _ | with_reducible refine Up.alloc ?_ _ | with_reducible refine Up.drew ?_ | with_reducible refine Up.drewN ?_ _ | with_reducible refine Up.setCell ?_ (by (try simp) <;> omega) _ | with_reducible assumption | with_reducible refine Up.trans ?_ (by assumption)))
  have hz_w1 := Up.size hb_w1
  try simp at hz_w1
  obtain ⟨bd_w1_0, be_w1_0⟩ := hb_w1.at_ (w.heap.size) (by (try simp) <;> omega)
  have zb_w1_0 : w.heap.size < w1.heap.size := by omega
  go_wp2_with fail
  refine wp_region_up_lit (by kernel_rfl) (by kernel_rfl) ?_
  repeat (go_big_quiet_step ((go_at_call 89; exact up_call (wrap_good _ _ _ _ h))))
  refine wpQuiet_nil ?_
  rintro w2 ⟨W_w2, hw_w2⟩
  have hb_w2 : Up _ w2 := hw_w2 ▸ up_upOf _ _
  clear hw_w2 W_w2
  have hu_w2 : Up w1 w2 := by (repeat (first | with_reducible exact Up.refl _ | with_reducible refine Up.alloc ?_ _ | with_reducible refine Up.drew ?_ | with_reducible refine Up.drewN ?_ _ | with_reducible refine Up.setCell ?_ (by (try simp) <;> omega) _ | with_reducible assumption | with_reducible refine Up.trans ?_ (by assumption)))
  have hz_w2 := Up.size hb_w2
  try simp at hz_w2
  obtain ⟨bc_w2_0, bf_w2_0⟩ := hu_w2.at_ (w.heap.size) (by omega)
  have zb_w2_0 : w.heap.size < w2.heap.size := by omega
  go_wp2_with fail
  go_ret
  exact ⟨rfl, by (repeat (first | with_reducible exact Up.refl _ | with_reducible refine Up.alloc ?_ _ | with_reducible refine Up.drew ?_ | with_reducible refine Up.drewN ?_ _ | with_reducible refine Up.setCell ?_ (by (try simp) <;> omega) _ | with_reducible assumption | with_reducible refine Up.trans ?_ (by assumption)))⟩

set_option maxHeartbeats 1600000 in
theorem move_good (r c n rows cols : Int) (w : World) (h : validB r c = true) :
    Calls Tryz.prog 248 #[.agg #[.int .i64 r, .int .i64 c], .int .i64 n, .int .i64 rows, .int .i64 cols] w fun e w' => e = .returned (.int .i64 (moveN r c n rows cols)) ∧ Up w w' := by
  obtain ⟨h0, h1, h2, h3, h4, h5⟩ := valid_facts h
  have hq := mod_facts n (r * c) h4
  have hp := mod_facts cols (r * c) h4
  have hmf := mod_facts (n % (r * c) + cols % (r * c)) (r * c) h4
  have hr := mod_facts rows r h0
  have hmm := Int.emod_eq_of_lt hmf.1 hmf.2
  have hz : (c == 0) = false := by simp; omega
  have hdiv : 0 ≤ (n % (r * c) + cols % (r * c)) % (r * c) / c ∧ (n % (r * c) + cols % (r * c)) % (r * c) / c ≤ 3564 :=
    ⟨Int.ediv_nonneg hmf.1 (by omega), Int.le_trans (Int.ediv_le_self _ hmf.1) (by omega)⟩
  have hdef : moveN r c n rows cols = atN r c ((n % (r * c) + cols % (r * c)) % (r * c) / c + rows % r) ((n % (r * c) + cols % (r * c)) % (r * c) % c) := rfl
  rw [hdef]
  clear hdef
  go_enter Tryz.func248, Tryz.ntmps248
  go_wp2_with fail
  refine (valid_is h _).mono ?_
  rintro e w1 ⟨rfl, hb_w1⟩
  have hu_w1 : Up w w1 := by (repeat (first | with_reducible exact Up.refl _ | with_reducible refine Up.alloc ?_ _ | with_reducible refine Up.drew ?_ | with_reducible refine Up.drewN ?_ _ | with_reducible refine Up.setCell ?_ (by (try simp) <;> omega) _ | with_reducible assumption | with_reducible refine Up.trans ?_ (by assumption)))
  have hz_w1 := Up.size hb_w1
  try simp at hz_w1
  obtain ⟨bd_w1_0, be_w1_0⟩ := hb_w1.at_ (w.heap.size) (by (try simp) <;> omega)
  have zb_w1_0 : w.heap.size < w1.heap.size := by omega
  go_wp2_with fail
  refine wp_region_up_lit (by kernel_rfl) (by kernel_rfl) ?_
  repeat (go_big_quiet_step ((go_at_call 89; exact up_call (wrap_good _ _ _ _ h))))
  refine wpQuiet_nil ?_
  rintro w2 ⟨W_w2, hw_w2⟩
  have hb_w2 : Up _ w2 := hw_w2 ▸ up_upOf _ _
  clear hw_w2 W_w2
  have hu_w2 : Up w1 w2 := by (repeat (first | with_reducible exact Up.refl _ | with_reducible refine Up.alloc ?_ _ | with_reducible refine Up.drew ?_ | with_reducible refine Up.drewN ?_ _ | with_reducible refine Up.setCell ?_ (by (try simp) <;> omega) _ | with_reducible assumption | with_reducible refine Up.trans ?_ (by assumption)))
  have hz_w2 := Up.size hb_w2
  try simp at hz_w2
  obtain ⟨bc_w2_0, bf_w2_0⟩ := hu_w2.at_ (w.heap.size) (by omega)
  have zb_w2_0 : w.heap.size < w2.heap.size := by omega
  go_wp2_with fail
  generalize hm : (n % (r * c) + cols % (r * c)) % (r * c) = m at *
  have HM := Lib.hid hm
  clear hm
  have rg := row_good r c m
  have cg := col_good r c m
  rw [hmm] at rg cg
  have RG := Lib.hid rg
  have CG := Lib.hid cg
  clear rg cg
  refine wp_region_up_lit (by kernel_rfl) (by kernel_rfl) ?_
  repeat (go_big_quiet_step (first | (go_at_call 293; exact up_call (RG.out _ h)) | (go_at_call 294; exact up_call (CG.out _ h)) | (go_at_call 129; exact up_same (rest_any _ _ _ (by omega) (by omega))) | (go_at_call 292; exact up_call (at_good _ _ _ _ _ h))))
  refine wpQuiet_nil ?_
  rintro w3 ⟨W_w3, hw_w3⟩
  have hb_w3 : Up _ w3 := hw_w3 ▸ up_upOf _ _
  clear hw_w3 W_w3
  have hu_w3 : Up w2 w3 := by (repeat (first | with_reducible exact Up.refl _ | with_reducible refine Up.alloc ?_ _ | with_reducible refine Up.drew ?_ | with_reducible refine Up.drewN ?_ _ | with_reducible refine Up.setCell ?_ (by (try simp) <;> omega) _ | with_reducible assumption | with_reducible refine Up.trans ?_ (by assumption)))
  have hz_w3 := Up.size hb_w3
  try simp at hz_w3
  obtain ⟨bc_w3_0, bf_w3_0⟩ := hu_w3.at_ (w.heap.size) (by omega)
  have zb_w3_0 : w.heap.size < w3.heap.size := by omega
  go_wp2_with fail
  go_ret
  exact ⟨ret_int (by rw [HM.out]), by (repeat (first | with_reducible exact Up.refl _ | with_reducible refine Up.alloc ?_ _ | with_reducible refine Up.drew ?_ | with_reducible refine Up.drewN ?_ _ | with_reducible refine Up.setCell ?_ (by (try simp) <;> omega) _ | with_reducible assumption | with_reducible refine Up.trans ?_ (by assumption)))⟩

end Go.Proofs.YtamfjgioajmnpaaGreatDoor
namespace Go.Proofs.YtamfjgioajmnpaaGreatDoor
open Go.RowKit
set_option linter.unusedVariables false
set_option linter.unusedSimpArgs false

end Go.Proofs.YtamfjgioajmnpaaGreatDoor
namespace Go.Proofs.YtamfjgioajmnpaaGreatDoor
open Go.RowKit
set_option linter.unusedVariables false
set_option linter.unusedSimpArgs false

def fbits (p n : Bool) (d : Int) (m : Bool) : Int := 4 * d + (if p then 32 else 0) + (if n then 16 else 0) + (if m then 1 else 0)
def fP (b : Int) : Bool := decide (b / 32 % 2 = 1)
def fN (b : Int) : Bool := decide (b / 16 % 2 = 1)
def fD (b : Int) : Int := b / 4 % 4
def fM (b : Int) : Bool := decide (b % 2 = 1)
theorem of_bits : ∀ k : Fin 256, (bits .and .u8 (k.val : Int) 32 != 0) = fP k.val ∧ (bits .and .u8 (k.val : Int) 16 != 0) = fN k.val ∧ bits .and .u8 (k.val : Int) 12 / 4 = fD k.val ∧ (bits .and .u8 (k.val : Int) 1 != 0) = fM k.val ∧
    0 ≤ bits .and .u8 (k.val : Int) 12 ∧ bits .and .u8 (k.val : Int) 12 ≤ 12 := by decide +kernel

set_option maxHeartbeats 400000 in
theorem of_any (b : Int) (w : World) (h0 : 0 ≤ b) (h1 : b ≤ 255) :
    Calls Tryz.prog 238 #[.int .u8 b] w fun e w' => e = .returned (.agg #[.bool (fP b), .bool (fN b), .int .i64 (fD b), .bool (fM b)]) ∧ Up w w' := by
  obtain ⟨k, rfl⟩ : ∃ k : Fin 256, b = k.val := ⟨⟨b.toNat, by omega⟩, by simp; omega⟩
  obtain ⟨e1, e2, e3, e4, e5, e6⟩ := of_bits k
  go_enter Tryz.func238, Tryz.ntmps238
  go_wp2
  refine bodyPost_ret (v := .agg #[.bool (fP k.val), .bool (fN k.val), .int .i64 (fD k.val), .bool (fM k.val)]) (by simp [results, Tryz.results238, go_sem]) rfl ⟨rfl, (Up.refl _).alloc _⟩

set_option maxHeartbeats 400000 in
theorem skipped_any (p n m : Bool) (d : Int) (w : World) :
    Calls Tryz.prog 298 #[.agg #[.bool p, .bool n, .int .i64 d, .bool m]] w fun e w' => e = .returned (.bool (p && n)) ∧ Up w w' := by
  cases p
  all_goals
    go_enter Tryz.func298, Tryz.ntmps298
    go_wp2
    go_ret
    exact ⟨ret_bool (by simp), (Up.refl _).alloc _⟩
end Go.Proofs.YtamfjgioajmnpaaGreatDoor
