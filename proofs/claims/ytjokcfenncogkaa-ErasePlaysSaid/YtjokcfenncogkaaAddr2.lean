/-
  What addr's Size methods At, Row, Col, Move, Line, Length and the reference's Wrap, At, Move compute. No condition (numbers of any size).
-/
import Derived.Test.YtjokcfenncogkaaAddr1
namespace Go.Proofs.Ytjokcfenncogkaa
open Go.RowKit
set_option linter.unusedVariables false
set_option linter.unusedSimpArgs false

def atN (r c row col : Int) : Int := row % r * c + col % c
def moveM (r c n cols : Int) : Int := (n % (r * c) + cols % (r * c)) % (r * c)
def moveN (r c n rows cols : Int) : Int := atN r c (moveM r c n cols / c + rows % r) (moveM r c n cols % c)
/-- what a valid size gives -/
theorem valid_facts {r c : Int} (h : validB r c = true) : 1 ≤ r ∧ r ≤ 43 ∧ 1 ≤ c ∧ c ≤ 132 ∧ 1 ≤ r * c ∧ r * c ≤ 3564 := by
  obtain ⟨h0, h1, h2, h3, h4⟩ := (valid_iff r c).1 h
  have hm : 1 ≤ r * c := by
    have := Int.mul_le_mul h0 h2 (by omega) (by omega)
    simpa using this
  exact ⟨h0, h1, h2, h3, hm, h4⟩
theorem mod_facts (n b : Int) (h : 1 ≤ b) : 0 ≤ n % b ∧ n % b < b := ⟨Int.emod_nonneg n (by omega), Int.emod_lt_of_pos n (by omega)⟩
theorem atN_bd {r c : Int} (h : validB r c = true) (row col : Int) : 0 ≤ atN r c row col ∧ atN r c row col < r * c := by
  obtain ⟨h0, h1, h2, h3, h4, h5⟩ := valid_facts h
  have hr := mod_facts row r h0
  have hc := mod_facts col c h2
  have hm := Int.mul_nonneg hr.1 (show 0 ≤ c by omega)
  have hu : row % r * c ≤ (r - 1) * c := Int.mul_le_mul_of_nonneg_right (by omega) (by omega)
  rw [Int.sub_mul, Int.one_mul] at hu
  unfold atN
  omega

theorem mod_is (n b : Int) (w : World) (h : 1 ≤ b) (hb : b ≤ 4611686018427387904) :
    Calls Try.prog 121 #[.int .i64 n, .int .i64 b] w fun e w' => e = .returned (.int .i64 (n % b)) ∧ w = w' := by
  rw [← modOf_pos n b h]; exact mod_any n b w hb

set_option maxHeartbeats 800000 in
theorem at_bad (r c row col : Int) (w : World) (h : validB r c = false) :
    Calls Try.prog 159 #[.agg #[.int .i64 r, .int .i64 c], .int .i64 row, .int .i64 col] w fun e w' => e = .returned (.int .i64 0) ∧ Up w w' := by
  go_enter Try.func159, Try.ntmps159
  go_wp2_with fail
  refine (valid_is h _).mono ?_
  rintro e w1 ⟨rfl, hb_w1⟩
  have hu_w1 : Up w w1 := by (repeat (first | with_reducible exact Up.refl _ | with_reducible refine Up.alloc ?_ _ | with_reducible refine Up.drew ?_ | with_reducible refine Up.drewN ?_ _ | with_reducible refine Up.setCell ?_ (by (try simp) <;> omega) _ | with_reducible assumption | with_reducible refine Up.trans ?_ (by assumption)))
  have hz_w1 := Up.size hb_w1
  try simp at hz_w1
  obtain ⟨bd_w1_0, be_w1_0⟩ := hb_w1.at_ (w.heap.size) (by (try simp) <;> omega)
  have zb_w1_0 : w.heap.size < w1.heap.size := by omega
  go_wp2_with fail
  go_ret
  exact ⟨rfl, by (repeat (first | with_reducible exact Up.refl _ | with_reducible refine Up.alloc ?_ _ | with_reducible refine Up.drew ?_ | with_reducible refine Up.drewN ?_ _ | with_reducible refine Up.setCell ?_ (by (try simp) <;> omega) _ | with_reducible assumption | with_reducible refine Up.trans ?_ (by assumption)))⟩

set_option maxHeartbeats 800000 in
theorem at_good (r c row col : Int) (w : World) (h : validB r c = true) :
    Calls Try.prog 159 #[.agg #[.int .i64 r, .int .i64 c], .int .i64 row, .int .i64 col] w fun e w' => e = .returned (.int .i64 (atN r c row col)) ∧ Up w w' := by
  obtain ⟨h0, h1, h2, h3, h4, h5⟩ := valid_facts h
  have hb := atN_bd h row col
  have hq := mod_facts row r h0
  have hp := mod_facts col c h2
  have hm := mul_bd (a := row % r) (c := c) (k := 42) (m := 132) hq.1 (by omega) (by omega) h3
  unfold atN at *
  go_enter Try.func159, Try.ntmps159
  go_wp2_with fail
  refine (valid_is h _).mono ?_
  rintro e w1 ⟨rfl, hb_w1⟩
  have hu_w1 : Up w w1 := by (repeat (first | with_reducible exact Up.refl _ | with_reducible refine Up.alloc ?_ _ | with_reducible refine Up.drew ?_ | with_reducible refine Up.drewN ?_ _ | with_reducible refine Up.setCell ?_ (by (try simp) <;> omega) _ | with_reducible assumption | with_reducible refine Up.trans ?_ (by assumption)))
  have hz_w1 := Up.size hb_w1
  try simp at hz_w1
  obtain ⟨bd_w1_0, be_w1_0⟩ := hb_w1.at_ (w.heap.size) (by (try simp) <;> omega)
  have zb_w1_0 : w.heap.size < w1.heap.size := by omega
  go_wp2_with fail
  refine wp_region_up_lit (by kernel_rfl) (by kernel_rfl) ?_
  repeat (go_big_quiet_step ((go_at_call 153; exact up_same (rest_any _ _ _ (by omega) (by omega)))))
  refine wpQuiet_nil ?_
  rintro w2 ⟨W_w2, hw_w2⟩
  have hb_w2 : Up _ w2 := hw_w2 ▸ up_upOf _ _
  clear hw_w2 W_w2
  have hu_w2 : Up w1 w2 := by (repeat (first | with_reducible exact Up.refl _ | with_reducible refine Up.alloc ?_ _ | with_reducible refine Up.drew ?_ | with_reducible refine Up.drewN ?_ _ | with_reducible refine Up.setCell ?_ (by (try simp) <;> omega) _ | with_reducible assumption | with_reducible refine Up.trans ?_ (by assumption)))
  have hz_w2 := Up.size hb_w2
  try simp at hz_w2
  obtain ⟨bc_w2_0, bf_w2_0⟩ := hu_w2.at_ (w.heap.size) (by omega)
  have zb_w2_0 : w.heap.size < w2.heap.size := by omega
  go_wp2_with fail
  go_ret
  exact ⟨rfl, by (repeat (first | with_reducible exact Up.refl _ | with_reducible refine Up.alloc ?_ _ | with_reducible refine Up.drew ?_ | with_reducible refine Up.drewN ?_ _ | with_reducible refine Up.setCell ?_ (by (try simp) <;> omega) _ | with_reducible assumption | with_reducible refine Up.trans ?_ (by assumption)))⟩

set_option maxHeartbeats 800000 in
theorem row_bad (r c n : Int) (w : World) (h : validB r c = false) :
    Calls Try.prog 160 #[.agg #[.int .i64 r, .int .i64 c], .int .i64 n] w fun e w' => e = .returned (.int .i64 0) ∧ Up w w' := by
  go_enter Try.func160, Try.ntmps160
  go_wp2_with fail
  refine (valid_is h _).mono ?_
  rintro e w1 ⟨rfl, hb_w1⟩
  have hu_w1 : Up w w1 := by (repeat (first | with_reducible exact Up.refl _ | with_reducible refine Up.alloc ?_ _ | with_reducible refine Up.drew ?_ | with_reducible refine Up.drewN ?_ _ | with_reducible refine Up.setCell ?_ (by (try simp) <;> omega) _ | with_reducible assumption | with_reducible refine Up.trans ?_ (by assumption)))
  have hz_w1 := Up.size hb_w1
  try simp at hz_w1
  obtain ⟨bd_w1_0, be_w1_0⟩ := hb_w1.at_ (w.heap.size) (by (try simp) <;> omega)
  have zb_w1_0 : w.heap.size < w1.heap.size := by omega
  go_wp2_with fail
  go_ret
  exact ⟨rfl, by (repeat (first | with_reducible exact Up.refl _ | with_reducible refine Up.alloc ?_ _ | with_reducible refine Up.drew ?_ | with_reducible refine Up.drewN ?_ _ | with_reducible refine Up.setCell ?_ (by (try simp) <;> omega) _ | with_reducible assumption | with_reducible refine Up.trans ?_ (by assumption)))⟩

set_option maxHeartbeats 800000 in
theorem col_bad (r c n : Int) (w : World) (h : validB r c = false) :
    Calls Try.prog 139 #[.agg #[.int .i64 r, .int .i64 c], .int .i64 n] w fun e w' => e = .returned (.int .i64 0) ∧ Up w w' := by
  go_enter Try.func139, Try.ntmps139
  go_wp2_with fail
  refine (valid_is h _).mono ?_
  rintro e w1 ⟨rfl, hb_w1⟩
  have hu_w1 : Up w w1 := by (repeat (first | with_reducible exact Up.refl _ | with_reducible refine Up.alloc ?_ _ | with_reducible refine Up.drew ?_ | with_reducible refine Up.drewN ?_ _ | with_reducible refine Up.setCell ?_ (by (try simp) <;> omega) _ | with_reducible assumption | with_reducible refine Up.trans ?_ (by assumption)))
  have hz_w1 := Up.size hb_w1
  try simp at hz_w1
  obtain ⟨bd_w1_0, be_w1_0⟩ := hb_w1.at_ (w.heap.size) (by (try simp) <;> omega)
  have zb_w1_0 : w.heap.size < w1.heap.size := by omega
  go_wp2_with fail
  go_ret
  exact ⟨rfl, by (repeat (first | with_reducible exact Up.refl _ | with_reducible refine Up.alloc ?_ _ | with_reducible refine Up.drew ?_ | with_reducible refine Up.drewN ?_ _ | with_reducible refine Up.setCell ?_ (by (try simp) <;> omega) _ | with_reducible assumption | with_reducible refine Up.trans ?_ (by assumption)))⟩

set_option maxHeartbeats 800000 in
theorem row_good (r c n : Int) (w : World) (h : validB r c = true) :
    Calls Try.prog 160 #[.agg #[.int .i64 r, .int .i64 c], .int .i64 n] w fun e w' => e = .returned (.int .i64 (n % (r * c) / c)) ∧ Up w w' := by
  obtain ⟨h0, h1, h2, h3, h4, h5⟩ := valid_facts h
  have hq := mod_facts n (r * c) h4
  have hz : (c == 0) = false := by simp; omega
  go_enter Try.func160, Try.ntmps160
  go_wp2_with fail
  refine (valid_is h _).mono ?_
  rintro e w1 ⟨rfl, hb_w1⟩
  have hu_w1 : Up w w1 := by (repeat (first | with_reducible exact Up.refl _ | with_reducible refine Up.alloc ?_ _ | with_reducible refine Up.drew ?_ | with_reducible refine Up.drewN ?_ _ | with_reducible refine Up.setCell ?_ (by (try simp) <;> omega) _ | with_reducible assumption | with_reducible refine Up.trans ?_ (by assumption)))
  have hz_w1 := Up.size hb_w1
  try simp at hz_w1
  obtain ⟨bd_w1_0, be_w1_0⟩ := hb_w1.at_ (w.heap.size) (by (try simp) <;> omega)
  have zb_w1_0 : w.heap.size < w1.heap.size := by omega
  go_wp2_with fail
  refine wp_region_up_lit (by kernel_rfl) (by kernel_rfl) ?_
  repeat (go_big_quiet_step ((go_at_call 112; exact up_call (wrap_good _ _ _ _ h))))
  refine wpQuiet_nil ?_
  rintro w2 ⟨W_w2, hw_w2⟩
  have hb_w2 : Up _ w2 := hw_w2 ▸ up_upOf _ _
  clear hw_w2 W_w2
  have hu_w2 : Up w1 w2 := by (repeat (first | with_reducible exact Up.refl _ | with_reducible refine Up.alloc ?_ _ | with_reducible refine Up.drew ?_ | with_reducible refine Up.drewN ?_ _ | with_reducible refine Up.setCell ?_ (by (try simp) <;> omega) _ | with_reducible assumption | with_reducible refine Up.trans ?_ (by assumption)))
  have hz_w2 := Up.size hb_w2
  try simp at hz_w2
  obtain ⟨bc_w2_0, bf_w2_0⟩ := hu_w2.at_ (w.heap.size) (by omega)
  have zb_w2_0 : w.heap.size < w2.heap.size := by omega
  go_wp2_with fail
  go_ret
  exact ⟨rfl, by (repeat (first | with_reducible exact Up.refl _ | with_reducible refine Up.alloc ?_ _ | with_reducible refine Up.drew ?_ | with_reducible refine Up.drewN ?_ _ | with_reducible refine Up.setCell ?_ (by (try simp) <;> omega) _ | with_reducible assumption | with_reducible refine Up.trans ?_ (by assumption)))⟩

set_option maxHeartbeats 800000 in
theorem col_good (r c n : Int) (w : World) (h : validB r c = true) :
    Calls Try.prog 139 #[.agg #[.int .i64 r, .int .i64 c], .int .i64 n] w fun e w' => e = .returned (.int .i64 (n % (r * c) % c)) ∧ Up w w' := by
  obtain ⟨h0, h1, h2, h3, h4, h5⟩ := valid_facts h
  have hq := mod_facts n (r * c) h4
  have hz : (c == 0) = false := by simp; omega
  go_enter Try.func139, Try.ntmps139
  go_wp2_with fail
  refine (valid_is h _).mono ?_
  rintro e w1 ⟨rfl, hb_w1⟩
  have hu_w1 : Up w w1 := by (repeat (first | with_reducible exact Up.refl _ | with_reducible refine Up.alloc ?_ _ | with_reducible refine Up.drew ?_ | with_reducible refine Up.drewN ?_ _ | with_reducible refine Up.setCell ?_ (by (try simp) <;> omega) _ | with_reducible assumption | with_reducible refine Up.trans ?_ (by assumption)))
  have hz_w1 := Up.size hb_w1
  try simp at hz_w1
  obtain ⟨bd_w1_0, be_w1_0⟩ := hb_w1.at_ (w.heap.size) (by (try simp) <;> omega)
  have zb_w1_0 : w.heap.size < w1.heap.size := by omega
  go_wp2_with fail
  refine wp_region_up_lit (by kernel_rfl) (by kernel_rfl) ?_
  repeat (go_big_quiet_step ((go_at_call 112; exact up_call (wrap_good _ _ _ _ h))))
  refine wpQuiet_nil ?_
  rintro w2 ⟨W_w2, hw_w2⟩
  have hb_w2 : Up _ w2 := hw_w2 ▸ up_upOf _ _
  clear hw_w2 W_w2
  have hu_w2 : Up w1 w2 := by (repeat (first | with_reducible exact Up.refl _ | with_reducible refine Up.alloc ?_ _ | with_reducible refine Up.drew ?_ | with_reducible refine Up.drewN ?_ _ | with_reducible refine Up.setCell ?_ (by (try simp) <;> omega) _ | with_reducible assumption | with_reducible refine Up.trans ?_ (by assumption)))
  have hz_w2 := Up.size hb_w2
  try simp at hz_w2
  obtain ⟨bc_w2_0, bf_w2_0⟩ := hu_w2.at_ (w.heap.size) (by omega)
  have zb_w2_0 : w.heap.size < w2.heap.size := by omega
  go_wp2_with fail
  go_ret
  exact ⟨rfl, by (repeat (first | with_reducible exact Up.refl _ | with_reducible refine Up.alloc ?_ _ | with_reducible refine Up.drew ?_ | with_reducible refine Up.drewN ?_ _ | with_reducible refine Up.setCell ?_ (by (try simp) <;> omega) _ | with_reducible assumption | with_reducible refine Up.trans ?_ (by assumption)))⟩

set_option maxHeartbeats 800000 in
theorem move_bad (r c n rows cols : Int) (w : World) (h : validB r c = false) :
    Calls Try.prog 134 #[.agg #[.int .i64 r, .int .i64 c], .int .i64 n, .int .i64 rows, .int .i64 cols] w fun e w' => e = .returned (.int .i64 0) ∧ Up w w' := by
  go_enter Try.func134, Try.ntmps134
  go_wp2_with fail
  refine (valid_is h _).mono ?_
  rintro e w1 ⟨rfl, hb_w1⟩
  have hu_w1 : Up w w1 := by (repeat (first | with_reducible exact Up.refl _ | with_reducible refine Up.alloc ?_ _ | with_reducible refine Up.drew ?_ | with_reducible refine Up.drewN ?_ _ | with_reducible refine Up.setCell ?_ (by (try simp) <;> omega) _ | with_reducible assumption | with_reducible refine Up.trans ?_ (by assumption)))
  have hz_w1 := Up.size hb_w1
  try simp at hz_w1
  obtain ⟨bd_w1_0, be_w1_0⟩ := hb_w1.at_ (w.heap.size) (by (try simp) <;> omega)
  have zb_w1_0 : w.heap.size < w1.heap.size := by omega
  go_wp2_with fail
  go_ret
  exact ⟨rfl, by (repeat (first | with_reducible exact Up.refl _ | with_reducible refine Up.alloc ?_ _ | with_reducible refine Up.drew ?_ | with_reducible refine Up.drewN ?_ _ | with_reducible refine Up.setCell ?_ (by (try simp) <;> omega) _ | with_reducible assumption | with_reducible refine Up.trans ?_ (by assumption)))⟩

set_option maxHeartbeats 1600000 in
theorem move_good (r c n rows cols : Int) (w : World) (h : validB r c = true) :
    Calls Try.prog 134 #[.agg #[.int .i64 r, .int .i64 c], .int .i64 n, .int .i64 rows, .int .i64 cols] w fun e w' => e = .returned (.int .i64 (moveN r c n rows cols)) ∧ Up w w' := by
  obtain ⟨h0, h1, h2, h3, h4, h5⟩ := valid_facts h
  have hq := mod_facts n (r * c) h4
  have hp := mod_facts cols (r * c) h4
  have hmf := mod_facts (n % (r * c) + cols % (r * c)) (r * c) h4
  have hr := mod_facts rows r h0
  have hmm := Int.emod_eq_of_lt hmf.1 hmf.2
  have hz : (c == 0) = false := by simp; omega
  have hdiv : 0 ≤ (n % (r * c) + cols % (r * c)) % (r * c) / c ∧ (n % (r * c) + cols % (r * c)) % (r * c) / c ≤ 3564 :=
    ⟨Int.ediv_nonneg hmf.1 (by omega), Int.le_trans (Int.ediv_le_self _ hmf.1) (by omega)⟩
  have hdef : moveN r c n rows cols = atN r c ((n % (r * c) + cols % (r * c)) % (r * c) / c + rows % r) ((n % (r * c) + cols % (r * c)) % (r * c) % c) := rfl
  rw [hdef]
  clear hdef
  go_enter Try.func134, Try.ntmps134
  go_wp2_with fail
  refine (valid_is h _).mono ?_
  rintro e w1 ⟨rfl, hb_w1⟩
  have hu_w1 : Up w w1 := by (repeat (first | with_reducible exact Up.refl _ | with_reducible refine Up.alloc ?_ _ | with_reducible refine Up.drew ?_ | with_reducible refine Up.drewN ?_ _ | with_reducible refine Up.setCell ?_ (by (try simp) <;> omega) _ | with_reducible assumption | with_reducible refine Up.trans ?_ (by assumption)))
  have hz_w1 := Up.size hb_w1
  try simp at hz_w1
  obtain ⟨bd_w1_0, be_w1_0⟩ := hb_w1.at_ (w.heap.size) (by (try simp) <;> omega)
  have zb_w1_0 : w.heap.size < w1.heap.size := by omega
  go_wp2_with fail
  refine wp_region_up_lit (by kernel_rfl) (by kernel_rfl) ?_
  repeat (go_big_quiet_step ((go_at_call 112; exact up_call (wrap_good _ _ _ _ h))))
  refine wpQuiet_nil ?_
  rintro w2 ⟨W_w2, hw_w2⟩
  have hb_w2 : Up _ w2 := hw_w2 ▸ up_upOf _ _
  clear hw_w2 W_w2
  have hu_w2 : Up w1 w2 := by (repeat (first | with_reducible exact Up.refl _ | with_reducible refine Up.alloc ?_ _ | with_reducible refine Up.drew ?_ | with_reducible refine Up.drewN ?_ _ | with_reducible refine Up.setCell ?_ (by (try simp) <;> omega) _ | with_reducible assumption | with_reducible refine Up.trans ?_ (by assumption)))
  have hz_w2 := Up.size hb_w2
  try simp at hz_w2
  obtain ⟨bc_w2_0, bf_w2_0⟩ := hu_w2.at_ (w.heap.size) (by omega)
  have zb_w2_0 : w.heap.size < w2.heap.size := by omega
  go_wp2_with fail
  generalize hm : (n % (r * c) + cols % (r * c)) % (r * c) = m at *
  have HM := Lib.hid hm
  clear hm
  have rg := row_good r c m
  have cg := col_good r c m
  rw [hmm] at rg cg
  have RG := Lib.hid rg
  have CG := Lib.hid cg
  clear rg cg
  refine wp_region_up_lit (by kernel_rfl) (by kernel_rfl) ?_
  repeat (go_big_quiet_step (first | (go_at_call 160; exact up_call (RG.out _ h)) | (go_at_call 139; exact up_call (CG.out _ h)) | (go_at_call 153; exact up_same (rest_any _ _ _ (by omega) (by omega))) | (go_at_call 159; exact up_call (at_good _ _ _ _ _ h))))
  refine wpQuiet_nil ?_
  rintro w3 ⟨W_w3, hw_w3⟩
  have hb_w3 : Up _ w3 := hw_w3 ▸ up_upOf _ _
  clear hw_w3 W_w3
  have hu_w3 : Up w2 w3 := by (repeat (first | with_reducible exact Up.refl _ | with_reducible refine Up.alloc ?_ _ | with_reducible refine Up.drew ?_ | with_reducible refine Up.drewN ?_ _ | with_reducible refine Up.setCell ?_ (by (try simp) <;> omega) _ | with_reducible assumption | with_reducible refine Up.trans ?_ (by assumption)))
  have hz_w3 := Up.size hb_w3
  try simp at hz_w3
  obtain ⟨bc_w3_0, bf_w3_0⟩ := hu_w3.at_ (w.heap.size) (by omega)
  have zb_w3_0 : w.heap.size < w3.heap.size := by omega
  go_wp2_with fail
  go_ret
  exact ⟨ret_int (by rw [HM.out]), by (repeat (first | with_reducible exact Up.refl _ | with_reducible refine Up.alloc ?_ _ | with_reducible refine Up.drew ?_ | with_reducible refine Up.drewN ?_ _ | with_reducible refine Up.setCell ?_ (by (try simp) <;> omega) _ | with_reducible assumption | with_reducible refine Up.trans ?_ (by assumption)))⟩

set_option maxHeartbeats 800000 in
theorem line_bad (r c n : Int) (w : World) (h : validB r c = false) :
    Calls Try.prog 133 #[.agg #[.int .i64 r, .int .i64 c], .int .i64 n] w fun e w' => e = .returned (.int .i64 0) ∧ Up w w' := by
  go_enter Try.func133, Try.ntmps133
  go_wp2_with fail
  refine wp_region_up_lit (by kernel_rfl) (by kernel_rfl) ?_
  repeat (go_big_quiet_step (first | (go_at_call 160; exact up_call (row_bad _ _ _ _ h)) | (go_at_call 159; exact up_call (at_bad _ _ _ _ _ h))))
  refine wpQuiet_nil ?_
  rintro w1 ⟨W_w1, hw_w1⟩
  have hb_w1 : Up _ w1 := hw_w1 ▸ up_upOf _ _
  clear hw_w1 W_w1
  have hu_w1 : Up w w1 := by (repeat (first | with_reducible exact Up.refl _ | with_reducible refine Up.alloc ?_ _ | with_reducible refine Up.drew ?_ | with_reducible refine Up.drewN ?_ _ | with_reducible refine Up.setCell ?_ (by (try simp) <;> omega) _ | with_reducible assumption | with_reducible refine Up.trans ?_ (by assumption)))
  have hz_w1 := Up.size hb_w1
  try simp at hz_w1
  obtain ⟨bd_w1_0, be_w1_0⟩ := hb_w1.at_ (w.heap.size) (by (try simp) <;> omega)
  have zb_w1_0 : w.heap.size < w1.heap.size := by omega
  go_wp2_with fail
  go_ret
  exact ⟨rfl, by (repeat (first | with_reducible exact Up.refl _ | with_reducible refine Up.alloc ?_ _ | with_reducible refine Up.drew ?_ | with_reducible refine Up.drewN ?_ _ | with_reducible refine Up.setCell ?_ (by (try simp) <;> omega) _ | with_reducible assumption | with_reducible refine Up.trans ?_ (by assumption)))⟩
set_option maxHeartbeats 800000 in
theorem line_good (r c n : Int) (w : World) (h : validB r c = true) :
    Calls Try.prog 133 #[.agg #[.int .i64 r, .int .i64 c], .int .i64 n] w fun e w' => e = .returned (.int .i64 (atN r c (n % (r * c) / c + 1) 0)) ∧ Up w w' := by
  obtain ⟨h0, h1, h2, h3, h4, h5⟩ := valid_facts h
  have hq := mod_facts n (r * c) h4
  have hdiv : 0 ≤ n % (r * c) / c ∧ n % (r * c) / c ≤ 3564 := ⟨Int.ediv_nonneg hq.1 (by omega), Int.le_trans (Int.ediv_le_self _ hq.1) (by omega)⟩
  go_enter Try.func133, Try.ntmps133
  go_wp2_with fail
  refine wp_region_up_lit (by kernel_rfl) (by kernel_rfl) ?_
  repeat (go_big_quiet_step (first | (go_at_call 160; exact up_call (row_good _ _ _ _ h)) | (go_at_call 159; exact up_call (at_good _ _ _ _ _ h))))
  refine wpQuiet_nil ?_
  rintro w1 ⟨W_w1, hw_w1⟩
  have hb_w1 : Up _ w1 := hw_w1 ▸ up_upOf _ _
  clear hw_w1 W_w1
  have hu_w1 : Up w w1 := by (repeat (first | with_reducible exact Up.refl _ | with_reducible refine Up.alloc ?_ _ | with_reducible refine Up.drew ?_ | with_reducible refine Up.drewN ?_ _ | with_reducible refine Up.setCell ?_ (by (try simp) <;> omega) _ | with_reducible assumption | with_reducible refine Up.trans ?_ (by assumption)))
  have hz_w1 := Up.size hb_w1
  try simp at hz_w1
  obtain ⟨bd_w1_0, be_w1_0⟩ := hb_w1.at_ (w.heap.size) (by (try simp) <;> omega)
  have zb_w1_0 : w.heap.size < w1.heap.size := by omega
  go_wp2_with fail
  go_ret
  exact ⟨rfl, by (repeat (first | with_reducible exact Up.refl _ | with_reducible refine Up.alloc ?_ _ | with_reducible refine Up.drew ?_ | with_reducible refine Up.drewN ?_ _ | with_reducible refine Up.setCell ?_ (by (try simp) <;> omega) _ | with_reducible assumption | with_reducible refine Up.trans ?_ (by assumption)))⟩
/-- how many places between two, round the screen -/
def lenN (r c a b : Int) : Int := if (b - a) % (r * c) = 0 then r * c else (b - a) % (r * c)
set_option maxHeartbeats 800000 in
theorem length_bad (r c a b : Int) (w : World) (h : validB r c = false) :
    Calls Try.prog 167 #[.agg #[.int .i64 r, .int .i64 c], .int .i64 a, .int .i64 b] w fun e w' => e = .returned (.int .i64 0) ∧ Up w w' := by
  go_enter Try.func167, Try.ntmps167
  go_wp2_with fail
  refine wp_region_up_lit (by kernel_rfl) (by kernel_rfl) ?_
  repeat (go_big_quiet_step (first | (go_at_call 112; exact up_call (wrap_bad _ _ _ _ h))))
  refine wpQuiet_nil ?_
  rintro w1 ⟨W_w1, hw_w1⟩
  have hb_w1 : Up _ w1 := hw_w1 ▸ up_upOf _ _
  clear hw_w1 W_w1
  have hu_w1 : Up w w1 := by (repeat (first | with_reducible exact Up.refl _ | with_reducible refine Up.alloc ?_ _ | with_reducible refine Up.drew ?_ | with_reducible refine Up.drewN ?_ _ | with_reducible refine Up.setCell ?_ (by (try simp) <;> omega) _ | with_reducible assumption | with_reducible refine Up.trans ?_ (by assumption)))
  have hz_w1 := Up.size hb_w1
  try simp at hz_w1
  obtain ⟨bd_w1_0, be_w1_0⟩ := hb_w1.at_ (w.heap.size) (by (try simp) <;> omega)
  have zb_w1_0 : w.heap.size < w1.heap.size := by omega
  go_wp2_with fail
  refine (cells_bad _ _ _ h).mono ?_
  rintro e w2 ⟨rfl, hb_w2⟩
  have hu_w2 : Up w1 w2 := by (repeat (first | with_reducible exact Up.refl _ | with_reducible refine Up.alloc ?_ _ | with_reducible refine Up.drew ?_ | with_reducible refine Up.drewN ?_ _ | with_reducible refine Up.setCell ?_ (by (try simp) <;> omega) _ | with_reducible assumption | with_reducible refine Up.trans ?_ (by assumption)))
  have hz_w2 := Up.size hb_w2
  try simp at hz_w2
  obtain ⟨bc_w2_0, bf_w2_0⟩ := hu_w2.at_ (w.heap.size) (by omega)
  have zb_w2_0 : w.heap.size < w2.heap.size := by omega
  go_wp2_with fail
  go_ret
  exact ⟨rfl, by (repeat (first | with_reducible exact Up.refl _ | with_reducible refine Up.alloc ?_ _ | with_reducible refine Up.drew ?_ | with_reducible refine Up.drewN ?_ _ | with_reducible refine Up.setCell ?_ (by (try simp) <;> omega) _ | with_reducible assumption | with_reducible refine Up.trans ?_ (by assumption)))⟩
set_option maxHeartbeats 800000 in
theorem length_good (r c a b : Int) (w : World) (h : validB r c = true) :
    Calls Try.prog 167 #[.agg #[.int .i64 r, .int .i64 c], .int .i64 a, .int .i64 b] w fun e w' => e = .returned (.int .i64 (lenN r c a b)) ∧ Up w w' := by
  obtain ⟨h0, h1, h2, h3, h4, h5⟩ := valid_facts h
  have hq := mod_facts a (r * c) h4
  have hp := mod_facts b (r * c) h4
  have hm := mod_facts (b - a) (r * c) h4
  unfold lenN
  by_cases hz : (b - a) % (r * c) = 0
  · rw [if_pos hz]
    have hz' : ¬ 0 < (b - a) % (r * c) := by omega
    have HZ := Lib.hid hz
    clear hz
    go_enter Try.func167, Try.ntmps167
    go_wp2_with fail
    refine wp_region_up_lit (by kernel_rfl) (by kernel_rfl) ?_
    repeat (go_big_quiet_step (first | (go_at_call 112; exact up_call (wrap_good _ _ _ _ h))))
    refine wpQuiet_nil ?_
    rintro w1 ⟨W_w1, hw_w1⟩
    have hb_w1 : Up _ w1 := hw_w1 ▸ up_upOf _ _
    clear hw_w1 W_w1
    have hu_w1 : Up w w1 := by (repeat (first | with_reducible exact Up.refl _ | with_reducible refine Up.alloc ?_ _ | with_reducible refine Up.drew ?_ | with_reducible refine Up.drewN ?_ _ | with_reducible refine Up.setCell ?_ (by (try simp) <;> omega) _ | with_reducible assumption | with_reducible refine Up.trans ?_ (by assumption)))
    have hz_w1 := Up.size hb_w1
    try simp at hz_w1
    obtain ⟨bd_w1_0, be_w1_0⟩ := hb_w1.at_ (w.heap.size) (by (try simp) <;> omega)
    have zb_w1_0 : w.heap.size < w1.heap.size := by omega
    go_wp2_with fail
    refine (cells_good _ _ _ h).mono ?_
    rintro e w2 ⟨rfl, hb_w2⟩
    have hu_w2 : Up w1 w2 := by (repeat (first | with_reducible exact Up.refl _ | with_reducible refine Up.alloc ?_ _ | with_reducible refine Up.drew ?_ | with_reducible refine Up.drewN ?_ _ | with_reducible refine Up.setCell ?_ (by (try simp) <;> omega) _ | with_reducible assumption | with_reducible refine Up.trans ?_ (by assumption)))
    have hz_w2 := Up.size hb_w2
    try simp at hz_w2
    obtain ⟨bc_w2_0, bf_w2_0⟩ := hu_w2.at_ (w.heap.size) (by omega)
    have zb_w2_0 : w.heap.size < w2.heap.size := by omega
    go_wp2_with fail
    go_ret
    exact ⟨rfl, by (repeat (first | with_reducible exact Up.refl _ | with_reducible refine Up.alloc ?_ _ | with_reducible refine Up.drew ?_ | with_reducible refine Up.drewN ?_ _ | with_reducible refine Up.setCell ?_ (by (try simp) <;> omega) _ | with_reducible assumption | with_reducible refine Up.trans ?_ (by assumption)))⟩
  · rw [if_neg hz]
    have hz' : 0 < (b - a) % (r * c) := by omega
    go_enter Try.func167, Try.ntmps167
    go_wp2_with fail
    refine wp_region_up_lit (by kernel_rfl) (by kernel_rfl) ?_
    repeat (go_big_quiet_step (first | (go_at_call 112; exact up_call (wrap_good _ _ _ _ h))))
    refine wpQuiet_nil ?_
    rintro w1 ⟨W_w1, hw_w1⟩
    have hb_w1 : Up _ w1 := hw_w1 ▸ up_upOf _ _
    clear hw_w1 W_w1
    have hu_w1 : Up w w1 := by (repeat (first | with_reducible exact Up.refl _ | with_reducible refine Up.alloc ?_ _ | with_reducible refine Up.drew ?_ | with_reducible refine Up.drewN ?_ _ | with_reducible refine Up.setCell ?_ (by (try simp) <;> omega) _ | with_reducible assumption | with_reducible refine Up.trans ?_ (by assumption)))
    have hz_w1 := Up.size hb_w1
    try simp at hz_w1
    obtain ⟨bd_w1_0, be_w1_0⟩ := hb_w1.at_ (w.heap.size) (by (try simp) <;> omega)
    have zb_w1_0 : w.heap.size < w1.heap.size := by omega
    go_wp2_with fail
    go_ret
    exact ⟨ret_int (by first | rfl | exact (Int.sub_emod _ _ _).symm | simp), by (repeat (first | with_reducible exact Up.refl _ | with_reducible refine Up.alloc ?_ _ | with_reducible refine Up.drew ?_ | with_reducible refine Up.drewN ?_ _ | with_reducible refine Up.setCell ?_ (by (try simp) <;> omega) _ | with_reducible assumption | with_reducible refine Up.trans ?_ (by assumption)))⟩

set_option maxHeartbeats 800000 in
theorem ref_wrap_bad (r c n : Int) (w : World) (h : validB r c = false) :
    Calls Try.prog 118 #[.agg #[.int .i64 r, .int .i64 c], .int .i64 n] w fun e w' => e = .returned (.int .i64 0) ∧ Up w w' := by
  go_enter Try.func118, Try.ntmps118
  go_wp2_with fail
  refine (ref_cells_bad _ _ _ h).mono ?_
  rintro e w1 ⟨rfl, hb_w1⟩
  have hu_w1 : Up w w1 := by (repeat (first | with_reducible exact Up.refl _ | with_reducible refine Up.alloc ?_ _ | with_reducible refine Up.drew ?_ | with_reducible refine Up.drewN ?_ _ | with_reducible refine Up.setCell ?_ (by (try simp) <;> omega) _ | with_reducible assumption | with_reducible refine Up.trans ?_ (by assumption)))
  have hz_w1 := Up.size hb_w1
  try simp at hz_w1
  obtain ⟨bd_w1_0, be_w1_0⟩ := hb_w1.at_ (w.heap.size) (by (try simp) <;> omega)
  have zb_w1_0 : w.heap.size < w1.heap.size := by omega
  go_wp2_with fail
  refine (mod_any _ _ _ (by omega)).mono ?_
  rintro e w' ⟨rfl, rfl⟩
  go_wp2
  go_ret
  exact ⟨rfl, by (repeat (first | with_reducible exact Up.refl _ | with_reducible refine Up.alloc ?_ _ | with_reducible refine Up.drew ?_ | with_reducible refine Up.drewN ?_ _ | with_reducible refine Up.setCell ?_ (by (try simp) <;> omega) _ | with_reducible assumption | with_reducible refine Up.trans ?_ (by assumption)))⟩
set_option maxHeartbeats 800000 in
theorem ref_wrap_good (r c n : Int) (w : World) (h : validB r c = true) :
    Calls Try.prog 118 #[.agg #[.int .i64 r, .int .i64 c], .int .i64 n] w fun e w' => e = .returned (.int .i64 (n % (r * c))) ∧ Up w w' := by
  obtain ⟨h0, h1, h2, h3, h4, h5⟩ := valid_facts h
  go_enter Try.func118, Try.ntmps118
  go_wp2_with fail
  refine (ref_cells_good _ _ _ h).mono ?_
  rintro e w1 ⟨rfl, hb_w1⟩
  have hu_w1 : Up w w1 := by (repeat (first | with_reducible exact Up.refl _ | with_reducible refine Up.alloc ?_ _ | with_reducible refine Up.drew ?_ | with_reducible refine Up.drewN ?_ _ | with_reducible refine Up.setCell ?_ (by (try simp) <;> omega) _ | with_reducible assumption | with_reducible refine Up.trans ?_ (by assumption)))
  have hz_w1 := Up.size hb_w1
  try simp at hz_w1
  obtain ⟨bd_w1_0, be_w1_0⟩ := hb_w1.at_ (w.heap.size) (by (try simp) <;> omega)
  have zb_w1_0 : w.heap.size < w1.heap.size := by omega
  go_wp2_with fail
  refine (mod_is _ _ _ h4 (by omega)).mono ?_
  rintro e w' ⟨rfl, rfl⟩
  go_wp2
  go_ret
  exact ⟨rfl, by (repeat (first | with_reducible exact Up.refl _ | with_reducible refine Up.alloc ?_ _ | with_reducible refine Up.drew ?_ | with_reducible refine Up.drewN ?_ _ | with_reducible refine Up.setCell ?_ (by (try simp) <;> omega) _ | with_reducible assumption | with_reducible refine Up.trans ?_ (by assumption)))⟩

set_option maxHeartbeats 800000 in
theorem ref_at_bad (r c row col : Int) (w : World) (h : validB r c = false) :
    Calls Try.prog 136 #[.agg #[.int .i64 r, .int .i64 c], .int .i64 row, .int .i64 col] w fun e w' => e = .returned (.int .i64 0) ∧ Up w w' := by
  go_enter Try.func136, Try.ntmps136
  go_wp2_with fail
  refine (ref_valid_is h _).mono ?_
  rintro e w1 ⟨rfl, hb_w1⟩
  have hu_w1 : Up w w1 := by (repeat (first | with_reducible exact Up.refl _ | with_reducible refine Up.alloc ?_ _ | with_reducible refine Up.drew ?_ | with_reducible refine Up.drewN ?_ _ | with_reducible refine Up.setCell ?_ (by (try simp) <;> omega) _ | with_reducible assumption | with_reducible refine Up.trans ?_ (by assumption)))
  have hz_w1 := Up.size hb_w1
  try simp at hz_w1
  obtain ⟨bd_w1_0, be_w1_0⟩ := hb_w1.at_ (w.heap.size) (by (try simp) <;> omega)
  have zb_w1_0 : w.heap.size < w1.heap.size := by omega
  go_wp2_with fail
  go_ret
  exact ⟨rfl, by (repeat (first | with_reducible exact Up.refl _ | with_reducible refine Up.alloc ?_ _ | with_reducible refine Up.drew ?_ | with_reducible refine Up.drewN ?_ _ | with_reducible refine Up.setCell ?_ (by (try simp) <;> omega) _ | with_reducible assumption | with_reducible refine Up.trans ?_ (by assumption)))⟩

set_option maxHeartbeats 800000 in
theorem ref_at_good (r c row col : Int) (w : World) (h : validB r c = true) :
    Calls Try.prog 136 #[.agg #[.int .i64 r, .int .i64 c], .int .i64 row, .int .i64 col] w fun e w' => e = .returned (.int .i64 (atN r c row col)) ∧ Up w w' := by
  obtain ⟨h0, h1, h2, h3, h4, h5⟩ := valid_facts h
  have hb := atN_bd h row col
  have hq := mod_facts row r h0
  have hp := mod_facts col c h2
  have hm := mul_bd (a := row % r) (c := c) (k := 42) (m := 132) hq.1 (by omega) (by omega) h3
  rw [Int.mul_comm (row % r) c] at hm
  unfold atN at *
  rw [Int.mul_comm (row % r) c] at *
  go_enter Try.func136, Try.ntmps136
  go_wp2_with fail
  refine (ref_valid_is h _).mono ?_
  rintro e w1 ⟨rfl, hb_w1⟩
  have hu_w1 : Up w w1 := by (repeat (first | with_reducible exact Up.refl _ | with_reducible refine Up.alloc ?_ _ | with_reducible refine Up.drew ?_ | with_reducible refine Up.drewN ?_ _ | with_reducible refine Up.setCell ?_ (by (try simp) <;> omega) _ | with_reducible assumption | with_reducible refine Up.trans ?_ (by assumption)))
  have hz_w1 := Up.size hb_w1
  try simp at hz_w1
  obtain ⟨bd_w1_0, be_w1_0⟩ := hb_w1.at_ (w.heap.size) (by (try simp) <;> omega)
  have zb_w1_0 : w.heap.size < w1.heap.size := by omega
  go_wp2_with fail
  refine wp_region_up_lit (by kernel_rfl) (by kernel_rfl) ?_
  repeat (go_big_quiet_step ((go_at_call 121; exact up_same (mod_is _ _ _ (by omega) (by omega)))))
  refine wpQuiet_nil ?_
  rintro w2 ⟨W_w2, hw_w2⟩
  have hb_w2 : Up _ w2 := hw_w2 ▸ up_upOf _ _
  clear hw_w2 W_w2
  have hu_w2 : Up w1 w2 := by (repeat (first | with_reducible exact Up.refl _ | with_reducible refine Up.alloc ?_ _ | with_reducible refine Up.drew ?_ | with_reducible refine Up.drewN ?_ _ | with_reducible refine Up.setCell ?_ (by (try simp) <;> omega) _ | with_reducible assumption | with_reducible refine Up.trans ?_ (by assumption)))
  have hz_w2 := Up.size hb_w2
  try simp at hz_w2
  obtain ⟨bc_w2_0, bf_w2_0⟩ := hu_w2.at_ (w.heap.size) (by omega)
  have zb_w2_0 : w.heap.size < w2.heap.size := by omega
  go_wp2_with fail
  go_ret
  exact ⟨rfl, by (repeat (first | with_reducible exact Up.refl _ | with_reducible refine Up.alloc ?_ _ | with_reducible refine Up.drew ?_ | with_reducible refine Up.drewN ?_ _ | with_reducible refine Up.setCell ?_ (by (try simp) <;> omega) _ | with_reducible assumption | with_reducible refine Up.trans ?_ (by assumption)))⟩


set_option maxHeartbeats 800000 in
theorem ref_move_bad (r c n rows cols : Int) (w : World) (h : validB r c = false) :
    Calls Try.prog 137 #[.agg #[.int .i64 r, .int .i64 c], .int .i64 n, .int .i64 rows, .int .i64 cols] w fun e w' => e = .returned (.int .i64 0) ∧ Up w w' := by
  go_enter Try.func137, Try.ntmps137
  go_wp2_with fail
  refine (ref_valid_is h _).mono ?_
  rintro e w1 ⟨rfl, hb_w1⟩
  have hu_w1 : Up w w1 := by (repeat (first | with_reducible exact Up.refl _ | with_reducible refine Up.alloc ?_ _ | with_reducible refine Up.drew ?_ | with_reducible refine Up.drewN ?_ _ | with_reducible refine Up.setCell ?_ (by (try simp) <;> omega) _ | with_reducible assumption | with_reducible refine Up.trans ?_ (by assumption)))
  have hz_w1 := Up.size hb_w1
  try simp at hz_w1
  obtain ⟨bd_w1_0, be_w1_0⟩ := hb_w1.at_ (w.heap.size) (by (try simp) <;> omega)
  have zb_w1_0 : w.heap.size < w1.heap.size := by omega
  go_wp2_with fail
  go_ret
  exact ⟨rfl, by (repeat (first | with_reducible exact Up.refl _ | with_reducible refine Up.alloc ?_ _ | with_reducible refine Up.drew ?_ | with_reducible refine Up.drewN ?_ _ | with_reducible refine Up.setCell ?_ (by (try simp) <;> omega) _ | with_reducible assumption | with_reducible refine Up.trans ?_ (by assumption)))⟩

set_option maxHeartbeats 1600000 in
theorem ref_move_good (r c n rows cols : Int) (w : World) (h : validB r c = true) :
    Calls Try.prog 137 #[.agg #[.int .i64 r, .int .i64 c], .int .i64 n, .int .i64 rows, .int .i64 cols] w fun e w' => e = .returned (.int .i64 (moveN r c n rows cols)) ∧ Up w w' := by
  obtain ⟨h0, h1, h2, h3, h4, h5⟩ := valid_facts h
  have hq := mod_facts n (r * c) h4
  have hp := mod_facts cols (r * c) h4
  have hmf := mod_facts (n % (r * c) + cols % (r * c)) (r * c) h4
  have hr := mod_facts rows r h0
  have hmm := Int.emod_eq_of_lt hmf.1 hmf.2
  have hz : (c == 0) = false := by simp; omega
  have hdiv : 0 ≤ (n % (r * c) + cols % (r * c)) % (r * c) / c ∧ (n % (r * c) + cols % (r * c)) % (r * c) / c ≤ 3564 :=
    ⟨Int.ediv_nonneg hmf.1 (by omega), Int.le_trans (Int.ediv_le_self _ hmf.1) (by omega)⟩
  have hdef : moveN r c n rows cols = atN r c ((n % (r * c) + cols % (r * c)) % (r * c) / c + rows % r) ((n % (r * c) + cols % (r * c)) % (r * c) % c) := rfl
  rw [hdef]
  clear hdef
  go_enter Try.func137, Try.ntmps137
  go_wp2_with fail
  refine (ref_valid_is h _).mono ?_
  rintro e w1 ⟨rfl, hb_w1⟩
  have hu_w1 : Up w w1 := by (repeat (first | with_reducible exact Up.refl _ | with_reducible refine Up.alloc ?_ _ | with_reducible refine Up.drew ?_ | with_reducible refine Up.drewN ?_ _ | with_reducible refine Up.setCell ?_ (by (try simp) <;> omega) _ | with_reducible assumption | with_reducible refine Up.trans ?_ (by assumption)))
  have hz_w1 := Up.size hb_w1
  try simp at hz_w1
  obtain ⟨bd_w1_0, be_w1_0⟩ := hb_w1.at_ (w.heap.size) (by (try simp) <;> omega)
  have zb_w1_0 : w.heap.size < w1.heap.size := by omega
  go_wp2_with fail
  refine wp_region_up_lit (by kernel_rfl) (by kernel_rfl) ?_
  repeat (go_big_quiet_step (first | (go_at_call 118; exact up_call (ref_wrap_good _ _ _ _ h)) | (go_at_call 152; exact up_call (ref_cells_good _ _ _ h)) | (go_at_call 121; exact up_same (mod_is _ _ _ (by omega) (by omega)))))
  refine wpQuiet_nil ?_
  rintro w2 ⟨W_w2, hw_w2⟩
  have hb_w2 : Up _ w2 := hw_w2 ▸ up_upOf _ _
  clear hw_w2 W_w2
  have hu_w2 : Up w1 w2 := by (repeat (first | with_reducible exact Up.refl _ | with_reducible refine Up.alloc ?_ _ | with_reducible refine Up.drew ?_ | with_reducible refine Up.drewN ?_ _ | with_reducible refine Up.setCell ?_ (by (try simp) <;> omega) _ | with_reducible assumption | with_reducible refine Up.trans ?_ (by assumption)))
  have hz_w2 := Up.size hb_w2
  try simp at hz_w2
  obtain ⟨bc_w2_0, bf_w2_0⟩ := hu_w2.at_ (w.heap.size) (by omega)
  have zb_w2_0 : w.heap.size < w2.heap.size := by omega
  go_wp2_with fail
  generalize hm : (n % (r * c) + cols % (r * c)) % (r * c) = m at *
  have HM := Lib.hid hm
  clear hm
  refine wp_region_up_lit (by kernel_rfl) (by kernel_rfl) ?_
  repeat (go_big_quiet_step (first | (go_at_call 121; exact up_same (mod_is _ _ _ (by omega) (by omega))) | (go_at_call 136; exact up_call (ref_at_good _ _ _ _ _ h))))
  refine wpQuiet_nil ?_
  rintro w3 ⟨W_w3, hw_w3⟩
  have hb_w3 : Up _ w3 := hw_w3 ▸ up_upOf _ _
  clear hw_w3 W_w3
  have hu_w3 : Up w2 w3 := by (repeat (first | with_reducible exact Up.refl _ | with_reducible refine Up.alloc ?_ _ | with_reducible refine Up.drew ?_ | with_reducible refine Up.drewN ?_ _ | with_reducible refine Up.setCell ?_ (by (try simp) <;> omega) _ | with_reducible assumption | with_reducible refine Up.trans ?_ (by assumption)))
  have hz_w3 := Up.size hb_w3
  try simp at hz_w3
  obtain ⟨bc_w3_0, bf_w3_0⟩ := hu_w3.at_ (w.heap.size) (by omega)
  have zb_w3_0 : w.heap.size < w3.heap.size := by omega
  go_wp2_with fail
  go_ret
  exact ⟨ret_int (by rw [HM.out]), by (repeat (first | with_reducible exact Up.refl _ | with_reducible refine Up.alloc ?_ _ | with_reducible refine Up.drew ?_ | with_reducible refine Up.drewN ?_ _ | with_reducible refine Up.setCell ?_ (by (try simp) <;> omega) _ | with_reducible assumption | with_reducible refine Up.trans ?_ (by assumption)))⟩
end Go.Proofs.Ytjokcfenncogkaa
