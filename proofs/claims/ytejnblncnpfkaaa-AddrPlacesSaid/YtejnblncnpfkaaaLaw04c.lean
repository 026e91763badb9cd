/-
  The walk of law 04's AddrPlaces. No condition.
-/
import Derived.Test.YtejnblncnpfkaaaLaw04b
namespace Go.Proofs.Ytejnblncnpfkaaa
open Go.RowKit
set_option linter.unusedVariables false
set_option linter.unusedSimpArgs false

theorem at_back {r c : Int} (h : validB r c = true) (n : Int) : atN r c (n % (r * c) / c) (n % (r * c) % c) = n % (r * c) := by
  obtain ⟨v0, v1, v2, v3, v4, v5⟩ := valid_facts h
  have hm := mod_facts n (r * c) v4
  obtain ⟨s0, s1, s2, s3, s4⟩ := split_at h hm.1 hm.2
  unfold atN
  rw [Int.emod_eq_of_lt s0 s1, Int.emod_emod, s4]
theorem ref_at_is {r c row col m : Int} (h : validB r c = true) (hm : atN r c row col = m) (w : World) :
    Calls Try.prog 32 #[.agg #[.int .i64 r, .int .i64 c], .int .i64 row, .int .i64 col] w fun e w' => e = .returned (.int .i64 m) ∧ Up w w' := by
  rw [← hm]; exact ref_at_good r c row col w h
theorem ref_move_is {r c n rows cols m : Int} (h : validB r c = true) (hm : moveN r c n rows cols = m) (w : World) :
    Calls Try.prog 33 #[.agg #[.int .i64 r, .int .i64 c], .int .i64 n, .int .i64 rows, .int .i64 cols] w fun e w' => e = .returned (.int .i64 m) ∧ Up w w' := by
  rw [← hm]; exact ref_move_good r c n rows cols w h
theorem ref_wrap_is {r c n m : Int} (h : validB r c = true) (hm : n % (r * c) = m) (w : World) :
    Calls Try.prog 30 #[.agg #[.int .i64 r, .int .i64 c], .int .i64 n] w fun e w' => e = .returned (.int .i64 m) ∧ Up w w' := by
  rw [← hm]; exact ref_wrap_good r c n w h
theorem line_is {r c n m l : Int} (h : validB r c = true) (hm : n % (r * c) = m) (hl : atN r c (m / c + 1) 0 = l) (w : World) :
    Calls Try.prog 34 #[.agg #[.int .i64 r, .int .i64 c], .int .i64 n] w fun e w' => e = .returned (.int .i64 l) ∧ Up w w' := by
  rw [← hl, ← hm]; exact line_good r c n w h
theorem tdiv_pos {m c : Int} (h : 0 ≤ m) (hc : 1 ≤ c) : m.tdiv c = m / c ∧ m.tmod c = m % c := ⟨Int.tdiv_eq_ediv_of_nonneg h, Int.tmod_eq_emod_of_nonneg h⟩

seal moveN atN
set_option maxRecDepth 100000 in
set_option maxHeartbeats 3200000 in
theorem law_places (r c n rows cols : Int) (w : World) (_ : -9223372036854775808 ≤ r) (_ : r ≤ 9223372036854775807) (_ : -9223372036854775808 ≤ c) (_ : c ≤ 9223372036854775807) (n0 : -9223372036854775808 ≤ n) (n1 : n ≤ 9223372036854775807) (_ : -9223372036854775808 ≤ rows) (_ : rows ≤ 9223372036854775807) (_ : -9223372036854775808 ≤ cols) (_ : cols ≤ 9223372036854775807) :
    Calls Try.prog 7 #[.agg #[.int .i64 r, .int .i64 c], .int .i64 n, .int .i64 rows, .int .i64 cols] w fun e w' => e = .returned (.bool true) ∧ Up w w' := by
  cases h : validB r c
  · go_enter Try.func7, Try.ntmps7
    go_wp2_with fail
    refine (awake04 _).mono ?_
    rintro e w1 ⟨rfl, hb_w1⟩
    have hu_w1 : Up w w1 := by (repeat (first | with_reducible exact Up.refl _ | with_reducible refine Up.alloc ?_ _ | with_reducible refine Up.drew ?_ | with_reducible refine Up.drewN ?_ _ | with_reducible refine Up.setCell ?_ (by (try simp) <;> omega) _ | with_reducible assumption | with_reducible refine Up.trans ?_ (by assumption)))
    have hz_w1 := Up.size hb_w1
    try simp at hz_w1
    obtain ⟨bd_w1_0, be_w1_0⟩ := hb_w1.at_ (w.heap.size) (by (try simp) <;> omega)
    have zb_w1_0 : w.heap.size < w1.heap.size := by omega
    go_wp2_with fail
    refine wp_region_up_lit (by kernel_rfl) (by kernel_rfl) ?_
    repeat (go_big_quiet_step (first | (go_at_call 12; exact up_call (valid_is h _)) | (go_at_call 28; exact up_call (ref_valid_is h _)) | (go_at_call 15; exact up_call (cells_bad _ _ _ h)) | (go_at_call 29; exact up_call (ref_cells_bad _ _ _ h)) | (go_at_call 14; exact up_call (wrap_bad _ _ _ _ h)) | (go_at_call 30; exact up_call (ref_wrap_bad _ _ _ _ h)) | (go_at_call 31; exact up_call (at_bad _ _ _ _ _ h)) | (go_at_call 32; exact up_call (ref_at_bad _ _ _ _ _ h)) | (go_at_call 13; exact up_call (move_bad _ _ _ _ _ _ h)) | (go_at_call 33; exact up_call (ref_move_bad _ _ _ _ _ _ h))))
    refine wpQuiet_nil ?_
    rintro w2 ⟨W_w2, hw_w2⟩
    have hb_w2 : Up _ w2 := hw_w2 ▸ up_upOf _ _
    clear hw_w2 W_w2
    have hu_w2 : Up w1 w2 := by (repeat (first | with_reducible exact Up.refl _ | with_reducible refine Up.alloc ?_ _ | with_reducible refine Up.drew ?_ | with_reducible refine Up.drewN ?_ _ | with_reducible refine Up.setCell ?_ (by (try simp) <;> omega) _ | with_reducible assumption | with_reducible refine Up.trans ?_ (by assumption)))
    have hz_w2 := Up.size hb_w2
    try simp at hz_w2
    obtain ⟨bc_w2_0, bf_w2_0⟩ := hu_w2.at_ (w.heap.size) (by omega)
    obtain ⟨bd_w2_0, be_w2_0⟩ := hb_w2.at_ (w1.heap.size) (by (try simp) <;> omega)
    have zb_w2_0 : w.heap.size < w2.heap.size := by omega
    have zb_w2_1 : w1.heap.size < w2.heap.size := by omega
    go_wp2_with fail
    refine (ref_valid_is h _).mono ?_
    rintro e w3 ⟨rfl, hb_w3⟩
    have hu_w3 : Up w2 w3 := by (repeat (first | with_reducible exact Up.refl _ | with_reducible refine Up.alloc ?_ _ | with_reducible refine Up.drew ?_ | with_reducible refine Up.drewN ?_ _ | with_reducible refine Up.setCell ?_ (by (try simp) <;> omega) _ | with_reducible assumption | with_reducible refine Up.trans ?_ (by assumption)))
    have hz_w3 := Up.size hb_w3
    try simp at hz_w3
    obtain ⟨bc_w3_0, bf_w3_0⟩ := hu_w3.at_ (w.heap.size) (by omega)
    obtain ⟨bc_w3_1, bf_w3_1⟩ := hu_w3.at_ (w1.heap.size) (by omega)
    have zb_w3_0 : w.heap.size < w3.heap.size := by omega
    have zb_w3_1 : w1.heap.size < w3.heap.size := by omega
    go_wp2_with fail
    refine wp_region_up_lit (by kernel_rfl) (by kernel_rfl) ?_
    repeat (go_big_quiet_step (first | (go_at_call 17; exact up_call (row_bad _ _ _ _ h)) | (go_at_call 16; exact up_call (col_bad _ _ _ _ h)) | (go_at_call 34; exact up_call (line_bad _ _ _ _ h)) | (go_at_call 14; exact up_call (wrap_bad _ _ _ _ h)) | (go_at_call 31; exact up_call (at_bad _ _ _ _ _ h))))
    refine wpQuiet_nil ?_
    rintro w4 ⟨W_w4, hw_w4⟩
    have hb_w4 : Up _ w4 := hw_w4 ▸ up_upOf _ _
    clear hw_w4 W_w4
    have hu_w4 : Up w3 w4 := by (repeat (first | with_reducible exact Up.refl _ | with_reducible refine Up.alloc ?_ _ | with_reducible refine Up.drew ?_ | with_reducible refine Up.drewN ?_ _ | with_reducible refine Up.setCell ?_ (by (try simp) <;> omega) _ | with_reducible assumption | with_reducible refine Up.trans ?_ (by assumption)))
    have hz_w4 := Up.size hb_w4
    try simp at hz_w4
    obtain ⟨bc_w4_0, bf_w4_0⟩ := hu_w4.at_ (w.heap.size) (by omega)
    obtain ⟨bc_w4_1, bf_w4_1⟩ := hu_w4.at_ (w1.heap.size) (by omega)
    have zb_w4_0 : w.heap.size < w4.heap.size := by omega
    have zb_w4_1 : w1.heap.size < w4.heap.size := by omega
    go_wp2_with fail
    go_ret
    exact ⟨rfl, by (repeat (first | with_reducible exact Up.refl _ | with_reducible refine Up.alloc ?_ _ | with_reducible refine Up.drew ?_ | with_reducible refine Up.drewN ?_ _ | with_reducible refine Up.setCell ?_ (by (try simp) <;> omega) _ | with_reducible assumption | with_reducible refine Up.trans ?_ (by assumption)))⟩
  · obtain ⟨v0, v1, v2, v3, v4, v5⟩ := valid_facts h
    have hb := at_back h n
    have hbn := mod_facts n (r * c) v4
    obtain ⟨s0, s1, s2, s3, s4⟩ := split_at h hbn.1 hbn.2
    obtain ⟨t0, t1⟩ := tdiv_pos hbn.1 v2
    generalize hM : n % (r * c) = m at *
    obtain ⟨mv, hmv⟩ : ∃ mv, moveN r c n rows cols = mv := ⟨_, rfl⟩
    obtain ⟨av, hav⟩ : ∃ av, atN r c rows cols = av := ⟨_, rfl⟩
    obtain ⟨lv, hlv⟩ : ∃ lv, atN r c (m / c + 1) 0 = lv := ⟨_, rfl⟩
    have u0 : m / c ≤ 43 := by omega
    have u1 : m ≤ 3564 := by omega
    have u2 : m % c ≤ 132 := by omega
    have c0 : (c == 0) = false := by simp; omega
    have c1 : (c == -1) = false := by simp; omega
    go_enter Try.func7, Try.ntmps7
    go_wp2_with fail
    refine (awake04 _).mono ?_
    rintro e w1 ⟨rfl, hb_w1⟩
    have hu_w1 : Up w w1 := by (repeat (first | with_reducible exact Up.refl _ | with_reducible refine Up.alloc ?_ _ | with_reducible refine Up.drew ?_ | with_reducible refine Up.drewN ?_ _ | with_reducible refine Up.setCell ?_ (by (try simp) <;> omega) _ | with_reducible assumption | with_reducible refine Up.trans ?_ (by assumption)))
    have hz_w1 := Up.size hb_w1
    try simp at hz_w1
    obtain ⟨bd_w1_0, be_w1_0⟩ := hb_w1.at_ (w.heap.size) (by (try simp) <;> omega)
    have zb_w1_0 : w.heap.size < w1.heap.size := by omega
    go_wp2_with fail
    refine wp_region_up_lit (by kernel_rfl) (by kernel_rfl) ?_
    repeat (go_big_quiet_step (first | (go_at_call 12; exact up_call (valid_is h _)) | (go_at_call 28; exact up_call (ref_valid_is h _)) | (go_at_call 15; exact up_call (cells_good _ _ _ h)) | (go_at_call 29; exact up_call (ref_cells_good _ _ _ h)) | (go_at_call 14; with_reducible exact up_call (wrap_is h hM _)) | (go_at_call 30; with_reducible exact up_call (ref_wrap_is h hM _)) | (go_at_call 31; with_reducible exact up_call (at_is h hav _)) | (go_at_call 32; with_reducible exact up_call (ref_at_is h hav _)) | (go_at_call 13; with_reducible exact up_call (move_is h hmv _)) | (go_at_call 33; with_reducible exact up_call (ref_move_is h hmv _))))
    refine wpQuiet_nil ?_
    rintro w2 ⟨W_w2, hw_w2⟩
    have hb_w2 : Up _ w2 := hw_w2 ▸ up_upOf _ _
    clear hw_w2 W_w2
    have hu_w2 : Up w1 w2 := by (repeat (first | with_reducible exact Up.refl _ | with_reducible refine Up.alloc ?_ _ | with_reducible refine Up.drew ?_ | with_reducible refine Up.drewN ?_ _ | with_reducible refine Up.setCell ?_ (by (try simp) <;> omega) _ | with_reducible assumption | with_reducible refine Up.trans ?_ (by assumption)))
    have hz_w2 := Up.size hb_w2
    try simp at hz_w2
    obtain ⟨bc_w2_0, bf_w2_0⟩ := hu_w2.at_ (w.heap.size) (by omega)
    obtain ⟨bd_w2_0, be_w2_0⟩ := hb_w2.at_ (w1.heap.size) (by (try simp) <;> omega)
    have zb_w2_0 : w.heap.size < w2.heap.size := by omega
    have zb_w2_1 : w1.heap.size < w2.heap.size := by omega
    go_wp2_with fail
    refine (ref_valid_is h _).mono ?_
    rintro e w3 ⟨rfl, hb_w3⟩
    have hu_w3 : Up w2 w3 := by (repeat (first | with_reducible exact Up.refl _ | with_reducible refine Up.alloc ?_ _ | with_reducible refine Up.drew ?_ | with_reducible refine Up.drewN ?_ _ | with_reducible refine Up.setCell ?_ (by (try simp) <;> omega) _ | with_reducible assumption | with_reducible refine Up.trans ?_ (by assumption)))
    have hz_w3 := Up.size hb_w3
    try simp at hz_w3
    obtain ⟨bc_w3_0, bf_w3_0⟩ := hu_w3.at_ (w.heap.size) (by omega)
    obtain ⟨bc_w3_1, bf_w3_1⟩ := hu_w3.at_ (w1.heap.size) (by omega)
    have zb_w3_0 : w.heap.size < w3.heap.size := by omega
    have zb_w3_1 : w1.heap.size < w3.heap.size := by omega
    go_wp2_with fail
    refine wp_region_up_lit (by kernel_rfl) (by kernel_rfl) ?_
    repeat (go_big_quiet_step ((go_at_call 30; with_reducible exact up_call (ref_wrap_is h hM _))))
    refine wpQuiet_nil ?_
    rintro w4 ⟨W_w4, hw_w4⟩
    have hb_w4 : Up _ w4 := hw_w4 ▸ up_upOf _ _
    clear hw_w4 W_w4
    have hu_w4 : Up w3 w4 := by (repeat (first | with_reducible exact Up.refl _ | with_reducible refine Up.alloc ?_ _ | with_reducible refine Up.drew ?_ | with_reducible refine Up.drewN ?_ _ | with_reducible refine Up.setCell ?_ (by (try simp) <;> omega) _ | with_reducible assumption | with_reducible refine Up.trans ?_ (by assumption)))
    have hz_w4 := Up.size hb_w4
    try simp at hz_w4
    obtain ⟨bc_w4_0, bf_w4_0⟩ := hu_w4.at_ (w.heap.size) (by omega)
    obtain ⟨bc_w4_1, bf_w4_1⟩ := hu_w4.at_ (w1.heap.size) (by omega)
    have zb_w4_0 : w.heap.size < w4.heap.size := by omega
    have zb_w4_1 : w1.heap.size < w4.heap.size := by omega
    go_wp2_with fail
    refine (ref_at_is h hlv _).mono ?_
    rintro e w5 ⟨rfl, hb_w5⟩
    have hu_w5 : Up w4 w5 := by (repeat (first | with_reducible exact Up.refl _ | with_reducible refine Up.alloc ?_ _ | with_reducible refine Up.drew ?_ | with_reducible refine Up.drewN ?_ _ | with_reducible refine Up.setCell ?_ (by (try simp) <;> omega) _ | with_reducible assumption | with_reducible refine Up.trans ?_ (by assumption)))
    have hz_w5 := Up.size hb_w5
    try simp at hz_w5
    obtain ⟨bc_w5_0, bf_w5_0⟩ := hu_w5.at_ (w.heap.size) (by omega)
    obtain ⟨bc_w5_1, bf_w5_1⟩ := hu_w5.at_ (w1.heap.size) (by omega)
    have zb_w5_0 : w.heap.size < w5.heap.size := by omega
    have zb_w5_1 : w1.heap.size < w5.heap.size := by omega
    go_wp2_with fail
    refine wp_region_up_lit (by kernel_rfl) (by kernel_rfl) ?_
    repeat (go_big_quiet_step (first | (go_at_call 17; with_reducible exact up_call (row_is h hM _)) | (go_at_call 16; with_reducible exact up_call (col_is h hM _)) | (go_at_call 34; with_reducible exact up_call (line_is h hM hlv _)) | (go_at_call 14; with_reducible exact up_call (wrap_is h hM _)) | (go_at_call 31; with_reducible exact up_call (at_is h hb _))))
    refine wpQuiet_nil ?_
    rintro w6 ⟨W_w6, hw_w6⟩
    have hb_w6 : Up _ w6 := hw_w6 ▸ up_upOf _ _
    clear hw_w6 W_w6
    have hu_w6 : Up w5 w6 := by (repeat (first | with_reducible exact Up.refl _ | with_reducible refine Up.alloc ?_ _ | with_reducible refine Up.drew ?_ | with_reducible refine Up.drewN ?_ _ | with_reducible refine Up.setCell ?_ (by (try simp) <;> omega) _ | with_reducible assumption | with_reducible refine Up.trans ?_ (by assumption)))
    have hz_w6 := Up.size hb_w6
    try simp at hz_w6
    obtain ⟨bc_w6_0, bf_w6_0⟩ := hu_w6.at_ (w.heap.size) (by omega)
    obtain ⟨bc_w6_1, bf_w6_1⟩ := hu_w6.at_ (w1.heap.size) (by omega)
    have zb_w6_0 : w.heap.size < w6.heap.size := by omega
    have zb_w6_1 : w1.heap.size < w6.heap.size := by omega
    go_wp2_with fail
    go_ret
    exact ⟨rfl, by (repeat (first | with_reducible exact Up.refl _ | with_reducible refine Up.alloc ?_ _ | with_reducible refine Up.drew ?_ | with_reducible refine Up.drewN ?_ _ | with_reducible refine Up.setCell ?_ (by (try simp) <;> omega) _ | with_reducible assumption | with_reducible refine Up.trans ?_ (by assumption)))⟩
end Go.Proofs.Ytejnblncnpfkaaa
