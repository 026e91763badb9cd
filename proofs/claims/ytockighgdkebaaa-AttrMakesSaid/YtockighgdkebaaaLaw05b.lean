/-
  The walk of AttrApplies: whatever the attribute and the cell, it returns true. No condition.
-/
import Derived.Test.YtockighgdkebaaaAttr3
import Derived.Test.YtockighgdkebaaaLaw05a
namespace Go.Proofs.Ytockighgdkebaaa
open Go.RowKit
set_option linter.unusedVariables false
set_option linter.unusedSimpArgs false

set_option maxHeartbeats 1600000 in
theorem law_applies (t v ch : Int) (a : Bool) (fa hi co se : Int) (w : World) (_ : 0 ≤ t) (_ : t ≤ 255) (v0 : 0 ≤ v) (v1 : v ≤ 255) (_ : 0 ≤ ch) (_ : ch ≤ 255) (_ : 0 ≤ fa) (_ : fa ≤ 255) (_ : 0 ≤ hi) (_ : hi ≤ 255) (_ : 0 ≤ co) (_ : co ≤ 255) (_ : 0 ≤ se) (_ : se ≤ 255) :
    Calls Try.prog 4 #[.agg #[.int .u8 t, .int .u8 v], .agg #[.int .u8 ch, .bool a, .int .u8 fa, .int .u8 hi, .int .u8 co, .int .u8 se]] w fun e w' => e = .returned (.bool true) ∧ Up w w' := by
  cases hr : rightB t v
  · go_enter Try.func4, Try.ntmps4
    go_wp2_with fail
    refine (awake05 _).mono ?_
    rintro e w1 ⟨rfl, hb_w1⟩
    have hu_w1 : Up w w1 := by (repeat (first | with_reducible exact Up.refl _ | with_reducible refine Up.alloc ?_ _ | with_reducible refine Up.drew ?_ | with_reducible refine Up.drewN ?_ _ | with_reducible refine Up.setCell ?_ (by (try simp) <;> omega) _ | with_reducible assumption | with_reducible refine Up.trans ?_ (by assumption)))
    have hz_w1 := Up.size hb_w1
    try simp at hz_w1
    obtain ⟨bd_w1_0, be_w1_0⟩ := hb_w1.at_ (w.heap.size) (by (try simp) <;> omega)
    obtain ⟨bd_w1_1, be_w1_1⟩ := hb_w1.at_ (w.heap.size + 1) (by (try simp) <;> omega)
    have zb_w1_0 : w.heap.size < w1.heap.size := by omega
    have zb_w1_1 : w.heap.size + 1 < w1.heap.size := by omega
    go_wp2_with fail
    refine (apply_bad _ _ _ _ _ _ _ _ _ hr).mono ?_
    rintro e w2 ⟨rfl, hb_w2⟩
    have hu_w2 : Up w1 w2 := by (repeat (first | with_reducible exact Up.refl _ | with_reducible refine Up.alloc ?_ _ | with_reducible refine Up.drew ?_ | with_reducible refine Up.drewN ?_ _ | with_reducible refine Up.setCell ?_ (by (try simp) <;> omega) _ | with_reducible assumption | with_reducible refine Up.trans ?_ (by assumption)))
    have hz_w2 := Up.size hb_w2
    try simp at hz_w2
    obtain ⟨bc_w2_0, bf_w2_0⟩ := hu_w2.at_ (w.heap.size) (by omega)
    obtain ⟨bc_w2_1, bf_w2_1⟩ := hu_w2.at_ (w.heap.size + 1) (by omega)
    have zb_w2_0 : w.heap.size < w2.heap.size := by omega
    have zb_w2_1 : w.heap.size + 1 < w2.heap.size := by omega
    go_wp2_with fail
    refine (ref_apply_bad _ _ _ _ _ _ _ _ _ hr).mono ?_
    rintro e w3 ⟨rfl, hb_w3⟩
    have hu_w3 : Up w2 w3 := by (repeat (first | with_reducible exact Up.refl _ | with_reducible refine Up.alloc ?_ _ | with_reducible refine Up.drew ?_ | with_reducible refine Up.drewN ?_ _ | with_reducible refine Up.setCell ?_ (by (try simp) <;> omega) _ | with_reducible assumption | with_reducible refine Up.trans ?_ (by assumption)))
    have hz_w3 := Up.size hb_w3
    try simp at hz_w3
    obtain ⟨bc_w3_0, bf_w3_0⟩ := hu_w3.at_ (w.heap.size) (by omega)
    obtain ⟨bc_w3_1, bf_w3_1⟩ := hu_w3.at_ (w.heap.size + 1) (by omega)
    obtain ⟨bd_w3_0, be_w3_0⟩ := hb_w3.at_ (w2.heap.size) (by (try simp) <;> omega)
    have zb_w3_0 : w.heap.size < w3.heap.size := by omega
    have zb_w3_1 : w.heap.size + 1 < w3.heap.size := by omega
    have zb_w3_2 : w2.heap.size < w3.heap.size := by omega
    go_wp2_with fail
    refine wp_region_up_lit (by kernel_rfl) (by kernel_rfl) ?_
    repeat (go_big_quiet_step (first | (go_at_call 20; exact up_call (check_bad hr _)) | (go_at_call 21; exact up_call (right_is hr _))))
    refine wpQuiet_nil ?_
    rintro w4 ⟨W_w4, hw_w4⟩
    have hb_w4 : Up _ w4 := hw_w4 ▸ up_upOf _ _
    clear hw_w4 W_w4
    have hu_w4 : Up w3 w4 := by (repeat (first | with_reducible exact Up.refl _ | with_reducible refine Up.alloc ?_ _ | with_reducible refine Up.drew ?_ | with_reducible refine Up.drewN ?_ _ | with_reducible refine Up.setCell ?_ (by (try simp) <;> omega) _ | with_reducible assumption | with_reducible refine Up.trans ?_ (by assumption)))
    have hz_w4 := Up.size hb_w4
    try simp at hz_w4
    obtain ⟨bc_w4_0, bf_w4_0⟩ := hu_w4.at_ (w.heap.size) (by omega)
    obtain ⟨bc_w4_1, bf_w4_1⟩ := hu_w4.at_ (w.heap.size + 1) (by omega)
    obtain ⟨bc_w4_2, bf_w4_2⟩ := hu_w4.at_ (w2.heap.size) (by omega)
    obtain ⟨bd_w4_0, be_w4_0⟩ := hb_w4.at_ (w3.heap.size) (by (try simp) <;> omega)
    have zb_w4_0 : w.heap.size < w4.heap.size := by omega
    have zb_w4_1 : w.heap.size + 1 < w4.heap.size := by omega
    have zb_w4_2 : w2.heap.size < w4.heap.size := by omega
    have zb_w4_3 : w3.heap.size < w4.heap.size := by omega
    go_wp2_with fail
    go_ret
    exact ⟨rfl, by (repeat (first | with_reducible exact Up.refl _ | with_reducible refine Up.alloc ?_ _ | with_reducible refine Up.drew ?_ | with_reducible refine Up.drewN ?_ _ | with_reducible refine Up.setCell ?_ (by (try simp) <;> omega) _ | with_reducible assumption | with_reducible refine Up.trans ?_ (by assumption)))⟩
  · go_enter Try.func4, Try.ntmps4
    go_wp2_with fail
    refine (awake05 _).mono ?_
    rintro e w1 ⟨rfl, hb_w1⟩
    have hu_w1 : Up w w1 := by (repeat (first | with_reducible exact Up.refl _ | with_reducible refine Up.alloc ?_ _ | with_reducible refine Up.drew ?_ | with_reducible refine Up.drewN ?_ _ | with_reducible refine Up.setCell ?_ (by (try simp) <;> omega) _ | with_reducible assumption | with_reducible refine Up.trans ?_ (by assumption)))
    have hz_w1 := Up.size hb_w1
    try simp at hz_w1
    obtain ⟨bd_w1_0, be_w1_0⟩ := hb_w1.at_ (w.heap.size) (by (try simp) <;> omega)
    obtain ⟨bd_w1_1, be_w1_1⟩ := hb_w1.at_ (w.heap.size + 1) (by (try simp) <;> omega)
    have zb_w1_0 : w.heap.size < w1.heap.size := by omega
    have zb_w1_1 : w.heap.size + 1 < w1.heap.size := by omega
    go_wp2_with fail
    refine (apply_good _ _ _ _ _ _ _ _ _ hr v0 v1).mono ?_
    rintro e w2 ⟨rfl, hb_w2⟩
    have hu_w2 : Up w1 w2 := by (repeat (first | with_reducible exact Up.refl _ | with_reducible refine Up.alloc ?_ _ | with_reducible refine Up.drew ?_ | with_reducible refine Up.drewN ?_ _ | with_reducible refine Up.setCell ?_ (by (try simp) <;> omega) _ | with_reducible assumption | with_reducible refine Up.trans ?_ (by assumption)))
    have hz_w2 := Up.size hb_w2
    try simp at hz_w2
    obtain ⟨bc_w2_0, bf_w2_0⟩ := hu_w2.at_ (w.heap.size) (by omega)
    obtain ⟨bc_w2_1, bf_w2_1⟩ := hu_w2.at_ (w.heap.size + 1) (by omega)
    have zb_w2_0 : w.heap.size < w2.heap.size := by omega
    have zb_w2_1 : w.heap.size + 1 < w2.heap.size := by omega
    go_wp2_with fail
    refine (ref_apply_good _ _ _ _ _ _ _ _ _ hr v0 v1).mono ?_
    rintro e w3 ⟨rfl, hb_w3⟩
    have hu_w3 : Up w2 w3 := by (repeat (first | with_reducible exact Up.refl _ | with_reducible refine Up.alloc ?_ _ | with_reducible refine Up.drew ?_ | with_reducible refine Up.drewN ?_ _ | with_reducible refine Up.setCell ?_ (by (try simp) <;> omega) _ | with_reducible assumption | with_reducible refine Up.trans ?_ (by assumption)))
    have hz_w3 := Up.size hb_w3
    try simp at hz_w3
    obtain ⟨bc_w3_0, bf_w3_0⟩ := hu_w3.at_ (w.heap.size) (by omega)
    obtain ⟨bc_w3_1, bf_w3_1⟩ := hu_w3.at_ (w.heap.size + 1) (by omega)
    obtain ⟨bd_w3_0, be_w3_0⟩ := hb_w3.at_ (w2.heap.size) (by (try simp) <;> omega)
    have zb_w3_0 : w.heap.size < w3.heap.size := by omega
    have zb_w3_1 : w.heap.size + 1 < w3.heap.size := by omega
    have zb_w3_2 : w2.heap.size < w3.heap.size := by omega
    go_wp2_with fail
    refine wp_region_up_lit (by kernel_rfl) (by kernel_rfl) ?_
    repeat (go_big_quiet_step (first | (go_at_call 20; exact up_call (check_good hr _)) | (go_at_call 21; exact up_call (right_is hr _))))
    refine wpQuiet_nil ?_
    rintro w4 ⟨W_w4, hw_w4⟩
    have hb_w4 : Up _ w4 := hw_w4 ▸ up_upOf _ _
    clear hw_w4 W_w4
    have hu_w4 : Up w3 w4 := by (repeat (first | with_reducible exact Up.refl _ | with_reducible refine Up.alloc ?_ _ | with_reducible refine Up.drew ?_ | with_reducible refine Up.drewN ?_ _ | with_reducible refine Up.setCell ?_ (by (try simp) <;> omega) _ | with_reducible assumption | with_reducible refine Up.trans ?_ (by assumption)))
    have hz_w4 := Up.size hb_w4
    try simp at hz_w4
    obtain ⟨bc_w4_0, bf_w4_0⟩ := hu_w4.at_ (w.heap.size) (by omega)
    obtain ⟨bc_w4_1, bf_w4_1⟩ := hu_w4.at_ (w.heap.size + 1) (by omega)
    obtain ⟨bc_w4_2, bf_w4_2⟩ := hu_w4.at_ (w2.heap.size) (by omega)
    obtain ⟨bd_w4_0, be_w4_0⟩ := hb_w4.at_ (w3.heap.size) (by (try simp) <;> omega)
    have zb_w4_0 : w.heap.size < w4.heap.size := by omega
    have zb_w4_1 : w.heap.size + 1 < w4.heap.size := by omega
    have zb_w4_2 : w2.heap.size < w4.heap.size := by omega
    have zb_w4_3 : w3.heap.size < w4.heap.size := by omega
    go_wp2_with fail
    go_ret
    exact ⟨rfl, by (repeat (first | with_reducible exact Up.refl _ | with_reducible refine Up.alloc ?_ _ | with_reducible refine Up.drew ?_ | with_reducible refine Up.drewN ?_ _ | with_reducible refine Up.setCell ?_ (by (try simp) <;> omega) _ | with_reducible assumption | with_reducible refine Up.trans ?_ (by assumption)))⟩
end Go.Proofs.Ytockighgdkebaaa
