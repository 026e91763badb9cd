/-
  What space's readers compute. No condition.
-/
import Derived.Test.YtjokcfenncogkaaSp1
namespace Go.Proofs.Ytjokcfenncogkaa
open Go.RowKit
set_option linter.unusedVariables false
set_option linter.unusedSimpArgs false

set_option maxHeartbeats 800000 in
theorem sat_is {p g : Nat} {X : Spc} {w : World} (n : Int) (h : SAt w p g X) (ok : X.Ok) :
    Calls Try.prog 27 #[.pointer (some ⟨p, 0, none⟩), .int .i64 n] w fun e w' => e = .returned (X.at_ n).val ∧ Up w w' := by
  obtain ⟨k, hk⟩ : ∃ k, X.wrap n = k := ⟨_, rfl⟩
  have hw := ok.wrap n
  rw [hk] at hw
  obtain ⟨hw1, hw2⟩ := hw
  have hv := Lib.hid ok.valid
  obtain ⟨c, hc⟩ : ∃ c, X.L[k]? = some c := ⟨_, List.getElem?_eq_getElem hw2⟩
  have hat : X.at_ n = c := by unfold Spc.at_; rw [hk, List.getD, hc]; rfl
  rw [hat]
  obtain ⟨c0, c1, c2, c3, c4, c5⟩ := h.cells.2.2 k c hc
  obtain ⟨cap, q1, q2, k4⟩ := h.h4
  have k2 := h.h2
  have k3 := h.h3
  have zp := h.lt
  have zg := h.cells.2.1
  have HW1 := Lib.hid hw1
  generalize X.L.length = m at *
  clear hc hat hk hw1 h ok
  have hm : (k : Int) < (m : Int) := by omega
  have hcp : (cap : Int) ≤ 9223372036854775807 := by simp [maxLen] at q2; omega
  go_enter Try.func27, Try.ntmps27
  go_wp2_with fail
  refine wp_region_mixT 12 (NS := []) [] rfl (by kernel_rfl) (by kernel_rfl) (by simp) (by simp) ?_
  simp only [List.take_succ_cons, List.take_zero, List.drop_succ_cons, List.drop_zero]
  repeat (first
    | (refine mix_skip rfl rfl ?_; simp only [Act.put, List.setIfInBounds_toArray, List.set_cons_succ, List.set_cons_zero])
    | (refine mix_q rfl rfl rfl (by kernel_rfl) rfl rfl rfl ?_
       apply Exists.intro
       refine ⟨fun Wm => ?_, ?_⟩
       · simp only [fin]
         skip
         intro K hK
         go_wp2_with ((go_at_call 112; (with_reducible refine (wrap_good _ _ _ _ hv.out).mono ?_); rw [HW1.out]; rintro e w' ⟨rfl, hux⟩))
         refine hK _ _ ?_ ?_ ?_
         · (repeat (first | with_reducible exact Up.refl _ | with_reducible refine Up.alloc ?_ _ | with_reducible refine Up.drew ?_ | with_reducible refine Up.drewN ?_ _ | with_reducible refine Up.setCell ?_ (by (try simp) <;> omega) _ | with_reducible assumption | with_reducible refine Up.trans ?_ (by assumption)))
         · rfl
         · exact tmps_at rfl
       simp only [Act.put, List.setIfInBounds_toArray, List.set_cons_succ, List.set_cons_zero]))
  refine mix_nil ?_
  intro w1 hb_w1
  simp only [fin]
  have hu_w1 : Up w w1 := by (repeat (first | with_reducible exact Up.refl _ | with_reducible refine Up.alloc ?_ _ | with_reducible refine Up.drew ?_ | with_reducible refine Up.drewN ?_ _ | with_reducible refine Up.setCell ?_ (by (try simp) <;> omega) _ | with_reducible assumption | with_reducible refine Up.trans ?_ (by assumption)))
  have hz_w1 := Up.size hb_w1
  try simp at hz_w1
  obtain ⟨bd_w1_0, be_w1_0⟩ := hb_w1.at_ (w.heap.size) (by (try simp) <;> omega)
  have zb_w1_0 : w.heap.size < w1.heap.size := by omega
  go_wp2_with fail
  refine bodyPost_ret (v := c.val) (by simp [results, Try.results27, go_sem, Cl.val, bd_w1_0]) rfl ⟨rfl, by (repeat (first | with_reducible exact Up.refl _ | with_reducible refine Up.alloc ?_ _ | with_reducible refine Up.drew ?_ | with_reducible refine Up.drewN ?_ _ | with_reducible refine Up.setCell ?_ (by (try simp) <;> omega) _ | with_reducible assumption | with_reducible refine Up.trans ?_ (by assumption)))⟩
set_option maxHeartbeats 400000 in
theorem ssize_is {p g : Nat} {X : Spc} {w : World} (h : SAt w p g X) :
    Calls Try.prog 25 #[.pointer (some ⟨p, 0, none⟩)] w fun e w' => e = .returned (.agg #[.int .i64 X.r, .int .i64 X.c]) ∧ Up w w' := by
  obtain ⟨_, zp, _, k0, k1, k2, k3, _, _, _, _⟩ := h
  go_enter Try.func25, Try.ntmps25
  go_wp2
  refine bodyPost_ret (v := .agg #[.int .i64 X.r, .int .i64 X.c]) (by simp [results, Try.results25, go_sem]) rfl ⟨rfl, by (repeat (first | with_reducible exact Up.refl _ | with_reducible refine Up.alloc ?_ _ | with_reducible refine Up.drew ?_ | with_reducible refine Up.drewN ?_ _ | with_reducible refine Up.setCell ?_ (by (try simp) <;> omega) _ | with_reducible assumption | with_reducible refine Up.trans ?_ (by assumption)))⟩
theorem ssize_nil {w : World} :
    Calls Try.prog 25 #[.pointer none] w fun e w' => e = .returned (.agg #[.int .i64 0, .int .i64 0]) ∧ Up w w' := by
  go_enter Try.func25, Try.ntmps25
  go_wp2
  refine bodyPost_ret (v := .agg #[.int .i64 0, .int .i64 0]) (by simp [results, Try.results25, go_sem]) rfl ⟨rfl, by (repeat (first | with_reducible exact Up.refl _ | with_reducible refine Up.alloc ?_ _ | with_reducible refine Up.drew ?_ | with_reducible refine Up.drewN ?_ _ | with_reducible refine Up.setCell ?_ (by (try simp) <;> omega) _ | with_reducible assumption | with_reducible refine Up.trans ?_ (by assumption)))⟩
theorem smodel_is {p g : Nat} {X : Spc} {w : World} (h : SAt w p g X) :
    Calls Try.prog 66 #[.pointer (some ⟨p, 0, none⟩)] w fun e w' => e = .returned (.int .i64 X.model) ∧ w = w' := by
  obtain ⟨_, zp, _, k0, k1, k2, k3, _, _, _, _⟩ := h
  go_enter Try.func66, Try.ntmps66
  go_wp2
  go_ret
  exact ⟨rfl, rfl⟩
theorem smodel_nil {w : World} :
    Calls Try.prog 66 #[.pointer none] w fun e w' => e = .returned (.int .i64 0) ∧ w = w' := by
  go_enter Try.func66, Try.ntmps66
  go_wp2
  go_ret
  exact ⟨rfl, rfl⟩
theorem salt_is {p g : Nat} {X : Spc} {w : World} (h : SAt w p g X) :
    Calls Try.prog 67 #[.pointer (some ⟨p, 0, none⟩)] w fun e w' => e = .returned (.bool X.alt) ∧ w = w' := by
  obtain ⟨_, zp, _, k0, k1, k2, k3, _, _, _, _⟩ := h
  go_enter Try.func67, Try.ntmps67
  go_wp2
  go_ret
  exact ⟨rfl, rfl⟩
theorem salt_nil {w : World} :
    Calls Try.prog 67 #[.pointer none] w fun e w' => e = .returned (.bool false) ∧ w = w' := by
  go_enter Try.func67, Try.ntmps67
  go_wp2
  go_ret
  exact ⟨rfl, rfl⟩
theorem scur_is {p g : Nat} {X : Spc} {w : World} (h : SAt w p g X) :
    Calls Try.prog 33 #[.pointer (some ⟨p, 0, none⟩)] w fun e w' => e = .returned (.int .i64 X.cur) ∧ w = w' := by
  obtain ⟨_, zp, _, k0, k1, k2, k3, _, k5, _, _⟩ := h
  go_enter Try.func33, Try.ntmps33
  go_wp2
  go_ret
  exact ⟨rfl, rfl⟩
theorem scur_nil {w : World} :
    Calls Try.prog 33 #[.pointer none] w fun e w' => e = .returned (.int .i64 0) ∧ w = w' := by
  go_enter Try.func33, Try.ntmps33
  go_wp2
  go_ret
  exact ⟨rfl, rfl⟩
theorem sform_is {p g : Nat} {X : Spc} {w : World} (h : SAt w p g X) :
    Calls Try.prog 68 #[.pointer (some ⟨p, 0, none⟩)] w fun e w' => e = .returned (.bool (decide (0 < attrsN X.L))) ∧ w = w' := by
  obtain ⟨_, zp, _, k0, k1, k2, k3, _, k5, k6, _⟩ := h
  generalize attrsN X.L = m at *
  go_enter Try.func68, Try.ntmps68
  go_wp2
  go_ret
  exact ⟨ret_bool (by simp), rfl⟩
theorem sform_nil {w : World} :
    Calls Try.prog 68 #[.pointer none] w fun e w' => e = .returned (.bool false) ∧ w = w' := by
  go_enter Try.func68, Try.ntmps68
  go_wp2
  go_ret
  exact ⟨rfl, rfl⟩
theorem sat_nil {n : Int} {w : World} :
    Calls Try.prog 27 #[.pointer none, .int .i64 n] w fun e w' => e = .returned Cl.zero.val ∧ Up w w' := by
  go_enter Try.func27, Try.ntmps27
  go_wp2
  refine bodyPost_ret (v := Cl.zero.val) (by simp [results, Try.results27, go_sem, Cl.val, Cl.zero]) rfl ⟨rfl, by (repeat (first | with_reducible exact Up.refl _ | with_reducible refine Up.alloc ?_ _ | with_reducible refine Up.drew ?_ | with_reducible refine Up.drewN ?_ _ | with_reducible refine Up.setCell ?_ (by (try simp) <;> omega) _ | with_reducible assumption | with_reducible refine Up.trans ?_ (by assumption)))⟩
end Go.Proofs.Ytjokcfenncogkaa
