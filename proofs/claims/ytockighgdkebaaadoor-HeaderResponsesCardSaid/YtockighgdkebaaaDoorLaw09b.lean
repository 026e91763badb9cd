/-
  The walk of HeaderResponses: whatever the number, the code and the type, it returns true, where the table of names lies as the program lays it.
-/
import Derived.Test.YtockighgdkebaaaDoorLaw09a
namespace Go.Proofs.YtockighgdkebaaaDoor
open Go.RowKit
set_option linter.unusedVariables false
set_option linter.unusedSimpArgs false

set_option maxHeartbeats 3200000 in
theorem law_responses (s c t : Int) (w : World) (s0 : 0 ≤ s) (s1 : s ≤ 65535) (c0 : 0 ≤ c) (c1 : c ≤ 255) (t0 : 0 ≤ t) (t1 : t ≤ 255) (hT : TabH w) :
    Calls Tryd.prog 5 #[.int .u16 s, .int .u8 c, .int .u8 t] w fun x w' => x = .returned (.bool true) ∧ Up w w' := by
  by_cases hc : c ≤ 3
  · by_cases hs : s < 32767
    all_goals
      go_enter Tryd.func5, Tryd.ntmps5
      go_wp2_with fail
      refine (awake09 _ hT).mono ?_
      rintro e w1 ⟨rfl, hb_w1⟩
      have hu_w1 : Up w w1 := by (repeat (first | with_reducible exact Up.refl _ | with_reducible refine Up.alloc ?_ _ | with_reducible refine Up.drew ?_ | with_reducible refine Up.drewN ?_ _ | with_reducible refine Up.setCell ?_ (by (try simp) <;> omega) _ | with_reducible assumption | with_reducible refine Up.trans ?_ (by assumption)))
      have hz_w1 := Up.size hb_w1
      try simp at hz_w1
      go_wp2_with fail
      refine (negative_good _ _ _ s0 s1 hc).mono ?_
      rintro x w2 ⟨A2, k2, rfl, hm2, u2⟩
      go_wp2_with fail
      refine (response_neg _ _ _ s0 s1).mono ?_
      rintro x w3 ⟨A3, k3, rfl, hm3, u3⟩
      have hwf := resp_wf 1 s c (by omega) ⟨s0, s1⟩ (by omega)
      have hr2 : Reads w2 w2.heap.size 1 A2 6 (bs (resp 1 s c)) := hm2.reads
      have hr3 : Reads w3 w3.heap.size 1 A3 6 (bs (resp 1 s c)) := hm3.reads
      go_wp2_with fail
      refine (same_any _ _ _ _ _ _ _ _ _ _ _ (hr2.up u3) hr3 hwf hwf).mono ?_
      rintro x w' ⟨rfl, rfl⟩
      rw [same_res]
      go_wp2_with fail
      refine (positive_any _ _ s0 s1).mono ?_
      rintro x w4 ⟨A4, k4, rfl, hm4, u4⟩
      go_wp2_with fail
      refine (response_pos _ _ _ s0 s1).mono ?_
      rintro x w5 ⟨A5, k5, rfl, hm5, u5⟩
      have hwf2 := resp_wf 0 s 0 (by omega) ⟨s0, s1⟩ (by omega)
      have hr4 : Reads w4 w4.heap.size 1 A4 6 (bs (resp 0 s 0)) := hm4.reads
      have hr5 : Reads w5 w5.heap.size 1 A5 6 (bs (resp 0 s 0)) := hm5.reads
      go_wp2_with fail
      refine (same_any _ _ _ _ _ _ _ _ _ _ _ (hr4.up u5) hr5 hwf2 hwf2).mono ?_
      rintro x w' ⟨rfl, rfl⟩
      rw [same_res]
      go_wp2_with fail
      refine (name_any _ _ t0 t1 (hT.up (by (repeat (first | with_reducible exact Up.refl _ | with_reducible refine Up.alloc ?_ _ | with_reducible refine Up.drew ?_ | with_reducible refine Up.drewN ?_ _ | with_reducible refine Up.setCell ?_ (by (try simp) <;> omega) _ | with_reducible assumption | with_reducible refine Up.trans ?_ (by assumption)))))).mono ?_
      rintro x w6 ⟨rfl, u6⟩
      go_wp2_with fail
      refine (ref_name_any _ _ t0 t1).mono ?_
      rintro x w7 ⟨rfl, u7⟩
      go_wp2_with fail
      refine (next_any _ _ s0 s1).mono ?_
      rintro x w' ⟨rfl, rfl⟩
      go_wp2
      go_ret
      exact ⟨ret_bool (by simp [hs]), by (repeat (first | with_reducible exact Up.refl _ | with_reducible refine Up.alloc ?_ _ | with_reducible refine Up.drew ?_ | with_reducible refine Up.drewN ?_ _ | with_reducible refine Up.setCell ?_ (by (try simp) <;> omega) _ | with_reducible assumption | with_reducible refine Up.trans ?_ (by assumption)))⟩
  · by_cases hs : s < 32767
    all_goals
      go_enter Tryd.func5, Tryd.ntmps5
      go_wp2_with fail
      refine (awake09 _ hT).mono ?_
      rintro e w1 ⟨rfl, hb_w1⟩
      have hu_w1 : Up w w1 := by (repeat (first | with_reducible exact Up.refl _ | with_reducible refine Up.alloc ?_ _ | with_reducible refine Up.drew ?_ | with_reducible refine Up.drewN ?_ _ | with_reducible refine Up.setCell ?_ (by (try simp) <;> omega) _ | with_reducible assumption | with_reducible refine Up.trans ?_ (by assumption)))
      have hz_w1 := Up.size hb_w1
      try simp at hz_w1
      go_wp2_with fail
      refine (negative_bad _ _ _ (by omega)).mono ?_
      rintro x w' ⟨rfl, rfl⟩
      go_wp2_with fail
      refine (positive_any _ _ s0 s1).mono ?_
      rintro x w4 ⟨A4, k4, rfl, hm4, u4⟩
      go_wp2_with fail
      refine (response_pos _ _ _ s0 s1).mono ?_
      rintro x w5 ⟨A5, k5, rfl, hm5, u5⟩
      have hwf2 := resp_wf 0 s 0 (by omega) ⟨s0, s1⟩ (by omega)
      have hr4 : Reads w4 w4.heap.size 1 A4 6 (bs (resp 0 s 0)) := hm4.reads
      have hr5 : Reads w5 w5.heap.size 1 A5 6 (bs (resp 0 s 0)) := hm5.reads
      go_wp2_with fail
      refine (same_any _ _ _ _ _ _ _ _ _ _ _ (hr4.up u5) hr5 hwf2 hwf2).mono ?_
      rintro x w' ⟨rfl, rfl⟩
      rw [same_res]
      go_wp2_with fail
      refine (name_any _ _ t0 t1 (hT.up (by (repeat (first | with_reducible exact Up.refl _ | with_reducible refine Up.alloc ?_ _ | with_reducible refine Up.drew ?_ | with_reducible refine Up.drewN ?_ _ | with_reducible refine Up.setCell ?_ (by (try simp) <;> omega) _ | with_reducible assumption | with_reducible refine Up.trans ?_ (by assumption)))))).mono ?_
      rintro x w6 ⟨rfl, u6⟩
      go_wp2_with fail
      refine (ref_name_any _ _ t0 t1).mono ?_
      rintro x w7 ⟨rfl, u7⟩
      go_wp2_with fail
      refine (next_any _ _ s0 s1).mono ?_
      rintro x w' ⟨rfl, rfl⟩
      go_wp2
      go_ret
      exact ⟨ret_bool (by simp [hs]), by (repeat (first | with_reducible exact Up.refl _ | with_reducible refine Up.alloc ?_ _ | with_reducible refine Up.drew ?_ | with_reducible refine Up.drewN ?_ _ | with_reducible refine Up.setCell ?_ (by (try simp) <;> omega) _ | with_reducible assumption | with_reducible refine Up.trans ?_ (by assumption)))⟩
end Go.Proofs.YtockighgdkebaaaDoor
