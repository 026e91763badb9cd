/-
  The walk of AttrFields: whatever the field and the byte, it returns true. No condition.
-/
import Derived.Test.YtockighgdkebaaaAttr1
namespace Go.Proofs.Ytockighgdkebaaa
open Go.RowKit
set_option linter.unusedVariables false
set_option linter.unusedSimpArgs false

theorem of228 : fP 228 = true ∧ fN 228 = false ∧ fD 228 = 1 ∧ fM 228 = false := by decide
set_option maxHeartbeats 400000 in
theorem awake05 (w : World) : Calls Try.prog 8 #[] w fun e w' => e = .returned (.bool true) ∧ Up w w' := by
  obtain ⟨e1, e2, e3, e4⟩ := of228
  have h6 : sixOf (fbits true false 1 false) = 228 := by decide
  go_enter Try.func8, Try.ntmps8
  go_wp2_with fail
  refine (of_any _ _ (by omega) (by omega)).mono ?_
  rintro e w1 ⟨rfl, hb⟩
  go_wp2_with fail
  refine (byte_good _ _ _ _ _ (by omega) (by omega)).mono ?_
  rintro e w2 ⟨rfl, hb2⟩
  obtain ⟨hc, hf⟩ := hb2.cells
  go_wp2
  go_ret
  exact ⟨rfl, (hb.alloc _).trans hb2⟩

theorem back_field (p n m : Bool) (d : Int) (h0 : 0 ≤ d) (h1 : d ≤ 3) : fP (sixOf (fbits p n d m)) = p ∧ fN (sixOf (fbits p n d m)) = n ∧ fD (sixOf (fbits p n d m)) = d ∧ fM (sixOf (fbits p n d m)) = m := by
  have hf := fbits_bd p n d m h0 h1
  exact of_fbits p n m d h0 h1 _ (by rw [sixOf_emod]; omega)

set_option maxHeartbeats 1600000 in
theorem law_fields_bad (p n m : Bool) (d b : Int) (w : World) (b0 : 0 ≤ b) (b1 : b ≤ 255) (h : d < 0 ∨ 3 < d) :
    Calls Try.prog 3 #[.agg #[.bool p, .bool n, .int .i64 d, .bool m], .int .u8 b] w fun e w' => e = .returned (.bool true) ∧ Up w w' := by
  have d1 : (d == 1) = false := by simp; omega
  have d2 : (d == 2) = false := by simp; omega
  cases p
  all_goals
    go_enter Try.func3, Try.ntmps3
    go_wp2_with fail
    refine (awake05 _).mono ?_
    rintro e w1 ⟨rfl, hb_w1⟩
    have hu_w1 : Up w w1 := by (repeat (first | with_reducible exact Up.refl _ | with_reducible refine Up.alloc ?_ _ | with_reducible refine Up.drew ?_ | with_reducible refine Up.drewN ?_ _ | with_reducible refine Up.setCell ?_ (by (try simp) <;> omega) _ | with_reducible assumption | with_reducible refine Up.trans ?_ (by assumption)))
    have hz_w1 := Up.size hb_w1
    try simp at hz_w1
    obtain ⟨bd_w1_0, be_w1_0⟩ := hb_w1.at_ (w.heap.size) (by (try simp) <;> omega)
    have zb_w1_0 : w.heap.size < w1.heap.size := by omega
    go_wp2_with fail
    refine (bits_bad _ _ _ _ _ h).mono ?_
    rintro e w2 ⟨rfl, hb_w2⟩
    have hu_w2 : Up w1 w2 := by (repeat (first | with_reducible exact Up.refl _ | with_reducible refine Up.alloc ?_ _ | with_reducible refine Up.drew ?_ | with_reducible refine Up.drewN ?_ _ | with_reducible refine Up.setCell ?_ (by (try simp) <;> omega) _ | with_reducible assumption | with_reducible refine Up.trans ?_ (by assumption)))
    have hz_w2 := Up.size hb_w2
    try simp at hz_w2
    obtain ⟨bc_w2_0, bf_w2_0⟩ := hu_w2.at_ (w.heap.size) (by omega)
    obtain ⟨bd_w2_0, be_w2_0⟩ := hb_w2.at_ (w1.heap.size) (by (try simp) <;> omega)
    have zb_w2_0 : w.heap.size < w2.heap.size := by omega
    have zb_w2_1 : w1.heap.size < w2.heap.size := by omega
    go_wp2_with fail
    refine (ref_bits_bad _ _ _ _ _ h).mono ?_
    rintro e w3 ⟨rfl, hb_w3⟩
    have hu_w3 : Up w2 w3 := by (repeat (first | with_reducible exact Up.refl _ | with_reducible refine Up.alloc ?_ _ | with_reducible refine Up.drew ?_ | with_reducible refine Up.drewN ?_ _ | with_reducible refine Up.setCell ?_ (by (try simp) <;> omega) _ | with_reducible assumption | with_reducible refine Up.trans ?_ (by assumption)))
    have hz_w3 := Up.size hb_w3
    try simp at hz_w3
    obtain ⟨bc_w3_0, bf_w3_0⟩ := hu_w3.at_ (w.heap.size) (by omega)
    obtain ⟨bc_w3_1, bf_w3_1⟩ := hu_w3.at_ (w1.heap.size) (by omega)
    have zb_w3_0 : w.heap.size < w3.heap.size := by omega
    have zb_w3_1 : w1.heap.size < w3.heap.size := by omega
    go_wp2_with fail
    refine (byte_bad _ _ _ _ _ h).mono ?_
    rintro e w4 ⟨rfl, hb_w4⟩
    have hu_w4 : Up w3 w4 := by (repeat (first | with_reducible exact Up.refl _ | with_reducible refine Up.alloc ?_ _ | with_reducible refine Up.drew ?_ | with_reducible refine Up.drewN ?_ _ | with_reducible refine Up.setCell ?_ (by (try simp) <;> omega) _ | with_reducible assumption | with_reducible refine Up.trans ?_ (by assumption)))
    have hz_w4 := Up.size hb_w4
    try simp at hz_w4
    obtain ⟨bc_w4_0, bf_w4_0⟩ := hu_w4.at_ (w.heap.size) (by omega)
    obtain ⟨bc_w4_1, bf_w4_1⟩ := hu_w4.at_ (w1.heap.size) (by omega)
    have zb_w4_0 : w.heap.size < w4.heap.size := by omega
    have zb_w4_1 : w1.heap.size < w4.heap.size := by omega
    go_wp2_with fail
    refine wp_region_up_lit (by kernel_rfl) (by kernel_rfl) ?_
    repeat (go_big_quiet_step (first | (go_at_call 13; exact up_call (of_any _ _ (by omega) (by omega))) | (go_at_call 12; exact up_same (ref_six_any _ _))))
    refine wpQuiet_nil ?_
    rintro w5 ⟨W_w5, hw_w5⟩
    have hb_w5 : Up _ w5 := hw_w5 ▸ up_upOf _ _
    clear hw_w5 W_w5
    have hu_w5 : Up w4 w5 := by (repeat (first | with_reducible exact Up.refl _ | with_reducible refine Up.alloc ?_ _ | with_reducible refine Up.drew ?_ | with_reducible refine Up.drewN ?_ _ | with_reducible refine Up.setCell ?_ (by (try simp) <;> omega) _ | with_reducible assumption | with_reducible refine Up.trans ?_ (by assumption)))
    have hz_w5 := Up.size hb_w5
    try simp at hz_w5
    obtain ⟨bc_w5_0, bf_w5_0⟩ := hu_w5.at_ (w.heap.size) (by omega)
    obtain ⟨bc_w5_1, bf_w5_1⟩ := hu_w5.at_ (w1.heap.size) (by omega)
    have zb_w5_0 : w.heap.size < w5.heap.size := by omega
    have zb_w5_1 : w1.heap.size < w5.heap.size := by omega
    go_wp2_with fail
    refine (of_any _ _ b0 b1).mono ?_
    rintro e w6 ⟨rfl, hb_w6⟩
    have hu_w6 : Up w5 w6 := by (repeat (first | with_reducible exact Up.refl _ | with_reducible refine Up.alloc ?_ _ | with_reducible refine Up.drew ?_ | with_reducible refine Up.drewN ?_ _ | with_reducible refine Up.setCell ?_ (by (try simp) <;> omega) _ | with_reducible assumption | with_reducible refine Up.trans ?_ (by assumption)))
    have hz_w6 := Up.size hb_w6
    try simp at hz_w6
    obtain ⟨bc_w6_0, bf_w6_0⟩ := hu_w6.at_ (w.heap.size) (by omega)
    obtain ⟨bc_w6_1, bf_w6_1⟩ := hu_w6.at_ (w1.heap.size) (by omega)
    have zb_w6_0 : w.heap.size < w6.heap.size := by omega
    have zb_w6_1 : w1.heap.size < w6.heap.size := by omega
    go_wp2_with fail
    refine wp_region_up_lit (by kernel_rfl) (by kernel_rfl) ?_
    repeat (go_big_quiet_step (first | (go_at_call 14; exact up_call (ref_of_any _ _ b0 b1)) | (go_at_call 15; exact up_call (skipped_any _ _ _ _ _)) | (go_at_call 16; exact up_call (hidden_any _ _ _ _ _)) | (go_at_call 17; exact up_call (detectable_any _ _ _ _ _))))
    refine wpQuiet_nil ?_
    rintro w7 ⟨W_w7, hw_w7⟩
    have hb_w7 : Up _ w7 := hw_w7 ▸ up_upOf _ _
    clear hw_w7 W_w7
    have hu_w7 : Up w6 w7 := by (repeat (first | with_reducible exact Up.refl _ | with_reducible refine Up.alloc ?_ _ | with_reducible refine Up.drew ?_ | with_reducible refine Up.drewN ?_ _ | with_reducible refine Up.setCell ?_ (by (try simp) <;> omega) _ | with_reducible assumption | with_reducible refine Up.trans ?_ (by assumption)))
    have hz_w7 := Up.size hb_w7
    try simp at hz_w7
    obtain ⟨bc_w7_0, bf_w7_0⟩ := hu_w7.at_ (w.heap.size) (by omega)
    obtain ⟨bc_w7_1, bf_w7_1⟩ := hu_w7.at_ (w1.heap.size) (by omega)
    obtain ⟨bd_w7_0, be_w7_0⟩ := hb_w7.at_ (w6.heap.size) (by (try simp) <;> omega)
    have zb_w7_0 : w.heap.size < w7.heap.size := by omega
    have zb_w7_1 : w1.heap.size < w7.heap.size := by omega
    have zb_w7_2 : w6.heap.size < w7.heap.size := by omega
    go_wp2_with fail
    go_ret
    exact ⟨rfl, by (repeat (first | with_reducible exact Up.refl _ | with_reducible refine Up.alloc ?_ _ | with_reducible refine Up.drew ?_ | with_reducible refine Up.drewN ?_ _ | with_reducible refine Up.setCell ?_ (by (try simp) <;> omega) _ | with_reducible assumption | with_reducible refine Up.trans ?_ (by assumption)))⟩
set_option maxHeartbeats 1600000 in
theorem law_fields_good (p n m : Bool) (d b : Int) (w : World) (b0 : 0 ≤ b) (b1 : b ≤ 255) (h0 : 0 ≤ d) (h1 : d ≤ 3) :
    Calls Try.prog 3 #[.agg #[.bool p, .bool n, .int .i64 d, .bool m], .int .u8 b] w fun e w' => e = .returned (.bool true) ∧ Up w w' := by
  obtain ⟨e1, e2, e3, e4⟩ := back_field p n m d h0 h1
  have hfb := fbits_bd p n d m h0 h1
  have hs6 := sixOf_bd (fbits p n d m)
  by_cases d1 : d = 1
  · subst d1
    cases p
    all_goals
      go_enter Try.func3, Try.ntmps3
      go_wp2_with fail
      refine (awake05 _).mono ?_
      rintro e w1 ⟨rfl, hb_w1⟩
      have hu_w1 : Up w w1 := by (repeat (first | with_reducible exact Up.refl _ | with_reducible refine Up.alloc ?_ _ | with_reducible refine Up.drew ?_ | with_reducible refine Up.drewN ?_ _ | with_reducible refine Up.setCell ?_ (by (try simp) <;> omega) _ | with_reducible assumption | with_reducible refine Up.trans ?_ (by assumption)))
      have hz_w1 := Up.size hb_w1
      try simp at hz_w1
      obtain ⟨bd_w1_0, be_w1_0⟩ := hb_w1.at_ (w.heap.size) (by (try simp) <;> omega)
      have zb_w1_0 : w.heap.size < w1.heap.size := by omega
      go_wp2_with fail
      refine (bits_good _ _ _ _ _ (by omega) (by omega)).mono ?_
      rintro e w2 ⟨rfl, hb_w2⟩
      have hu_w2 : Up w1 w2 := by (repeat (first | with_reducible exact Up.refl _ | with_reducible refine Up.alloc ?_ _ | with_reducible refine Up.drew ?_ | with_reducible refine Up.drewN ?_ _ | with_reducible refine Up.setCell ?_ (by (try simp) <;> omega) _ | with_reducible assumption | with_reducible refine Up.trans ?_ (by assumption)))
      have hz_w2 := Up.size hb_w2
      try simp at hz_w2
      obtain ⟨bc_w2_0, bf_w2_0⟩ := hu_w2.at_ (w.heap.size) (by omega)
      obtain ⟨bd_w2_0, be_w2_0⟩ := hb_w2.at_ (w1.heap.size) (by (try simp) <;> omega)
      have zb_w2_0 : w.heap.size < w2.heap.size := by omega
      have zb_w2_1 : w1.heap.size < w2.heap.size := by omega
      go_wp2_with fail
      refine (ref_bits_good _ _ _ _ _ (by omega) (by omega)).mono ?_
      rintro e w3 ⟨rfl, hb_w3⟩
      have hu_w3 : Up w2 w3 := by (repeat (first | with_reducible exact Up.refl _ | with_reducible refine Up.alloc ?_ _ | with_reducible refine Up.drew ?_ | with_reducible refine Up.drewN ?_ _ | with_reducible refine Up.setCell ?_ (by (try simp) <;> omega) _ | with_reducible assumption | with_reducible refine Up.trans ?_ (by assumption)))
      have hz_w3 := Up.size hb_w3
      try simp at hz_w3
      obtain ⟨bc_w3_0, bf_w3_0⟩ := hu_w3.at_ (w.heap.size) (by omega)
      obtain ⟨bc_w3_1, bf_w3_1⟩ := hu_w3.at_ (w1.heap.size) (by omega)
      have zb_w3_0 : w.heap.size < w3.heap.size := by omega
      have zb_w3_1 : w1.heap.size < w3.heap.size := by omega
      go_wp2_with fail
      refine (byte_good _ _ _ _ _ (by omega) (by omega)).mono ?_
      rintro e w4 ⟨rfl, hb_w4⟩
      have hu_w4 : Up w3 w4 := by (repeat (first | with_reducible exact Up.refl _ | with_reducible refine Up.alloc ?_ _ | with_reducible refine Up.drew ?_ | with_reducible refine Up.drewN ?_ _ | with_reducible refine Up.setCell ?_ (by (try simp) <;> omega) _ | with_reducible assumption | with_reducible refine Up.trans ?_ (by assumption)))
      have hz_w4 := Up.size hb_w4
      try simp at hz_w4
      obtain ⟨bc_w4_0, bf_w4_0⟩ := hu_w4.at_ (w.heap.size) (by omega)
      obtain ⟨bc_w4_1, bf_w4_1⟩ := hu_w4.at_ (w1.heap.size) (by omega)
      have zb_w4_0 : w.heap.size < w4.heap.size := by omega
      have zb_w4_1 : w1.heap.size < w4.heap.size := by omega
      go_wp2_with fail
      refine wp_region_up_lit (by kernel_rfl) (by kernel_rfl) ?_
      repeat (go_big_quiet_step (first | (go_at_call 13; exact up_call (of_any _ _ (by omega) (by omega))) | (go_at_call 12; exact up_same (ref_six_any _ _))))
      refine wpQuiet_nil ?_
      rintro w5 ⟨W_w5, hw_w5⟩
      have hb_w5 : Up _ w5 := hw_w5 ▸ up_upOf _ _
      clear hw_w5 W_w5
      have hu_w5 : Up w4 w5 := by (repeat (first | with_reducible exact Up.refl _ | with_reducible refine Up.alloc ?_ _ | with_reducible refine Up.drew ?_ | with_reducible refine Up.drewN ?_ _ | with_reducible refine Up.setCell ?_ (by (try simp) <;> omega) _ | with_reducible assumption | with_reducible refine Up.trans ?_ (by assumption)))
      have hz_w5 := Up.size hb_w5
      try simp at hz_w5
      obtain ⟨bc_w5_0, bf_w5_0⟩ := hu_w5.at_ (w.heap.size) (by omega)
      obtain ⟨bc_w5_1, bf_w5_1⟩ := hu_w5.at_ (w1.heap.size) (by omega)
      have zb_w5_0 : w.heap.size < w5.heap.size := by omega
      have zb_w5_1 : w1.heap.size < w5.heap.size := by omega
      go_wp2_with fail
      refine (of_any _ _ b0 b1).mono ?_
      rintro e w6 ⟨rfl, hb_w6⟩
      have hu_w6 : Up w5 w6 := by (repeat (first | with_reducible exact Up.refl _ | with_reducible refine Up.alloc ?_ _ | with_reducible refine Up.drew ?_ | with_reducible refine Up.drewN ?_ _ | with_reducible refine Up.setCell ?_ (by (try simp) <;> omega) _ | with_reducible assumption | with_reducible refine Up.trans ?_ (by assumption)))
      have hz_w6 := Up.size hb_w6
      try simp at hz_w6
      obtain ⟨bc_w6_0, bf_w6_0⟩ := hu_w6.at_ (w.heap.size) (by omega)
      obtain ⟨bc_w6_1, bf_w6_1⟩ := hu_w6.at_ (w1.heap.size) (by omega)
      have zb_w6_0 : w.heap.size < w6.heap.size := by omega
      have zb_w6_1 : w1.heap.size < w6.heap.size := by omega
      go_wp2_with fail
      refine wp_region_up_lit (by kernel_rfl) (by kernel_rfl) ?_
      repeat (go_big_quiet_step (first | (go_at_call 14; exact up_call (ref_of_any _ _ b0 b1)) | (go_at_call 15; exact up_call (skipped_any _ _ _ _ _)) | (go_at_call 16; exact up_call (hidden_any _ _ _ _ _)) | (go_at_call 17; exact up_call (detectable_any _ _ _ _ _))))
      refine wpQuiet_nil ?_
      rintro w7 ⟨W_w7, hw_w7⟩
      have hb_w7 : Up _ w7 := hw_w7 ▸ up_upOf _ _
      clear hw_w7 W_w7
      have hu_w7 : Up w6 w7 := by (repeat (first | with_reducible exact Up.refl _ | with_reducible refine Up.alloc ?_ _ | with_reducible refine Up.drew ?_ | with_reducible refine Up.drewN ?_ _ | with_reducible refine Up.setCell ?_ (by (try simp) <;> omega) _ | with_reducible assumption | with_reducible refine Up.trans ?_ (by assumption)))
      have hz_w7 := Up.size hb_w7
      try simp at hz_w7
      obtain ⟨bc_w7_0, bf_w7_0⟩ := hu_w7.at_ (w.heap.size) (by omega)
      obtain ⟨bc_w7_1, bf_w7_1⟩ := hu_w7.at_ (w1.heap.size) (by omega)
      obtain ⟨bd_w7_0, be_w7_0⟩ := hb_w7.at_ (w6.heap.size) (by (try simp) <;> omega)
      have zb_w7_0 : w.heap.size < w7.heap.size := by omega
      have zb_w7_1 : w1.heap.size < w7.heap.size := by omega
      have zb_w7_2 : w6.heap.size < w7.heap.size := by omega
      go_wp2_with fail
      go_ret
      exact ⟨rfl, by (repeat (first | with_reducible exact Up.refl _ | with_reducible refine Up.alloc ?_ _ | with_reducible refine Up.drew ?_ | with_reducible refine Up.drewN ?_ _ | with_reducible refine Up.setCell ?_ (by (try simp) <;> omega) _ | with_reducible assumption | with_reducible refine Up.trans ?_ (by assumption)))⟩
  · have d1 : (d == 1) = false := by simp; omega
    cases p
    all_goals
      go_enter Try.func3, Try.ntmps3
      go_wp2_with fail
      refine (awake05 _).mono ?_
      rintro e w1 ⟨rfl, hb_w1⟩
      have hu_w1 : Up w w1 := by (repeat (first | with_reducible exact Up.refl _ | with_reducible refine Up.alloc ?_ _ | with_reducible refine Up.drew ?_ | with_reducible refine Up.drewN ?_ _ | with_reducible refine Up.setCell ?_ (by (try simp) <;> omega) _ | with_reducible assumption | with_reducible refine Up.trans ?_ (by assumption)))
      have hz_w1 := Up.size hb_w1
      try simp at hz_w1
      obtain ⟨bd_w1_0, be_w1_0⟩ := hb_w1.at_ (w.heap.size) (by (try simp) <;> omega)
      have zb_w1_0 : w.heap.size < w1.heap.size := by omega
      go_wp2_with fail
      refine (bits_good _ _ _ _ _ (by omega) (by omega)).mono ?_
      rintro e w2 ⟨rfl, hb_w2⟩
      have hu_w2 : Up w1 w2 := by (repeat (first | with_reducible exact Up.refl _ | with_reducible refine Up.alloc ?_ _ | with_reducible refine Up.drew ?_ | with_reducible refine Up.drewN ?_ _ | with_reducible refine Up.setCell ?_ (by (try simp) <;> omega) _ | with_reducible assumption | with_reducible refine Up.trans ?_ (by assumption)))
      have hz_w2 := Up.size hb_w2
      try simp at hz_w2
      obtain ⟨bc_w2_0, bf_w2_0⟩ := hu_w2.at_ (w.heap.size) (by omega)
      obtain ⟨bd_w2_0, be_w2_0⟩ := hb_w2.at_ (w1.heap.size) (by (try simp) <;> omega)
      have zb_w2_0 : w.heap.size < w2.heap.size := by omega
      have zb_w2_1 : w1.heap.size < w2.heap.size := by omega
      go_wp2_with fail
      refine (ref_bits_good _ _ _ _ _ (by omega) (by omega)).mono ?_
      rintro e w3 ⟨rfl, hb_w3⟩
      have hu_w3 : Up w2 w3 := by (repeat (first | with_reducible exact Up.refl _ | with_reducible refine Up.alloc ?_ _ | with_reducible refine Up.drew ?_ | with_reducible refine Up.drewN ?_ _ | with_reducible refine Up.setCell ?_ (by (try simp) <;> omega) _ | with_reducible assumption | with_reducible refine Up.trans ?_ (by assumption)))
      have hz_w3 := Up.size hb_w3
      try simp at hz_w3
      obtain ⟨bc_w3_0, bf_w3_0⟩ := hu_w3.at_ (w.heap.size) (by omega)
      obtain ⟨bc_w3_1, bf_w3_1⟩ := hu_w3.at_ (w1.heap.size) (by omega)
      have zb_w3_0 : w.heap.size < w3.heap.size := by omega
      have zb_w3_1 : w1.heap.size < w3.heap.size := by omega
      go_wp2_with fail
      refine (byte_good _ _ _ _ _ (by omega) (by omega)).mono ?_
      rintro e w4 ⟨rfl, hb_w4⟩
      have hu_w4 : Up w3 w4 := by (repeat (first | with_reducible exact Up.refl _ | with_reducible refine Up.alloc ?_ _ | with_reducible refine Up.drew ?_ | with_reducible refine Up.drewN ?_ _ | with_reducible refine Up.setCell ?_ (by (try simp) <;> omega) _ | with_reducible assumption | with_reducible refine Up.trans ?_ (by assumption)))
      have hz_w4 := Up.size hb_w4
      try simp at hz_w4
      obtain ⟨bc_w4_0, bf_w4_0⟩ := hu_w4.at_ (w.heap.size) (by omega)
      obtain ⟨bc_w4_1, bf_w4_1⟩ := hu_w4.at_ (w1.heap.size) (by omega)
      have zb_w4_0 : w.heap.size < w4.heap.size := by omega
      have zb_w4_1 : w1.heap.size < w4.heap.size := by omega
      go_wp2_with fail
      refine wp_region_up_lit (by kernel_rfl) (by kernel_rfl) ?_
      repeat (go_big_quiet_step (first | (go_at_call 13; exact up_call (of_any _ _ (by omega) (by omega))) | (go_at_call 12; exact up_same (ref_six_any _ _))))
      refine wpQuiet_nil ?_
      rintro w5 ⟨W_w5, hw_w5⟩
      have hb_w5 : Up _ w5 := hw_w5 ▸ up_upOf _ _
      clear hw_w5 W_w5
      have hu_w5 : Up w4 w5 := by (repeat (first | with_reducible exact Up.refl _ | with_reducible refine Up.alloc ?_ _ | with_reducible refine Up.drew ?_ | with_reducible refine Up.drewN ?_ _ | with_reducible refine Up.setCell ?_ (by (try simp) <;> omega) _ | with_reducible assumption | with_reducible refine Up.trans ?_ (by assumption)))
      have hz_w5 := Up.size hb_w5
      try simp at hz_w5
      obtain ⟨bc_w5_0, bf_w5_0⟩ := hu_w5.at_ (w.heap.size) (by omega)
      obtain ⟨bc_w5_1, bf_w5_1⟩ := hu_w5.at_ (w1.heap.size) (by omega)
      have zb_w5_0 : w.heap.size < w5.heap.size := by omega
      have zb_w5_1 : w1.heap.size < w5.heap.size := by omega
      go_wp2_with fail
      refine (of_any _ _ b0 b1).mono ?_
      rintro e w6 ⟨rfl, hb_w6⟩
      have hu_w6 : Up w5 w6 := by (repeat (first | with_reducible exact Up.refl _ | with_reducible refine Up.alloc ?_ _ | with_reducible refine Up.drew ?_ | with_reducible refine Up.drewN ?_ _ | with_reducible refine Up.setCell ?_ (by (try simp) <;> omega) _ | with_reducible assumption | with_reducible refine Up.trans ?_ (by assumption)))
      have hz_w6 := Up.size hb_w6
      try simp at hz_w6
      obtain ⟨bc_w6_0, bf_w6_0⟩ := hu_w6.at_ (w.heap.size) (by omega)
      obtain ⟨bc_w6_1, bf_w6_1⟩ := hu_w6.at_ (w1.heap.size) (by omega)
      have zb_w6_0 : w.heap.size < w6.heap.size := by omega
      have zb_w6_1 : w1.heap.size < w6.heap.size := by omega
      go_wp2_with fail
      refine wp_region_up_lit (by kernel_rfl) (by kernel_rfl) ?_
      repeat (go_big_quiet_step (first | (go_at_call 14; exact up_call (ref_of_any _ _ b0 b1)) | (go_at_call 15; exact up_call (skipped_any _ _ _ _ _)) | (go_at_call 16; exact up_call (hidden_any _ _ _ _ _)) | (go_at_call 17; exact up_call (detectable_any _ _ _ _ _))))
      refine wpQuiet_nil ?_
      rintro w7 ⟨W_w7, hw_w7⟩
      have hb_w7 : Up _ w7 := hw_w7 ▸ up_upOf _ _
      clear hw_w7 W_w7
      have hu_w7 : Up w6 w7 := by (repeat (first | with_reducible exact Up.refl _ | with_reducible refine Up.alloc ?_ _ | with_reducible refine Up.drew ?_ | with_reducible refine Up.drewN ?_ _ | with_reducible refine Up.setCell ?_ (by (try simp) <;> omega) _ | with_reducible assumption | with_reducible refine Up.trans ?_ (by assumption)))
      have hz_w7 := Up.size hb_w7
      try simp at hz_w7
      obtain ⟨bc_w7_0, bf_w7_0⟩ := hu_w7.at_ (w.heap.size) (by omega)
      obtain ⟨bc_w7_1, bf_w7_1⟩ := hu_w7.at_ (w1.heap.size) (by omega)
      obtain ⟨bd_w7_0, be_w7_0⟩ := hb_w7.at_ (w6.heap.size) (by (try simp) <;> omega)
      have zb_w7_0 : w.heap.size < w7.heap.size := by omega
      have zb_w7_1 : w1.heap.size < w7.heap.size := by omega
      have zb_w7_2 : w6.heap.size < w7.heap.size := by omega
      go_wp2_with fail
      go_ret
      exact ⟨rfl, by (repeat (first | with_reducible exact Up.refl _ | with_reducible refine Up.alloc ?_ _ | with_reducible refine Up.drew ?_ | with_reducible refine Up.drewN ?_ _ | with_reducible refine Up.setCell ?_ (by (try simp) <;> omega) _ | with_reducible assumption | with_reducible refine Up.trans ?_ (by assumption)))⟩
theorem law_fields (p n : Bool) (d : Int) (m : Bool) (b : Int) (w : World) (_ : -9223372036854775808 ≤ d) (_ : d ≤ 9223372036854775807) (b0 : 0 ≤ b) (b1 : b ≤ 255) :
    Calls Try.prog 3 #[.agg #[.bool p, .bool n, .int .i64 d, .bool m], .int .u8 b] w fun e w' => e = .returned (.bool true) ∧ Up w w' := by
  by_cases h : d < 0 ∨ 3 < d
  · exact law_fields_bad p n m d b w b0 b1 h
  · exact law_fields_good p n m d b w b0 b1 (by omega) (by omega)
end Go.Proofs.Ytockighgdkebaaa
