/-
  The law's same of a screen and the document's that are alike. No condition.
-/
import Derived.Test.YtjokcfenncogkaaEqI
import Derived.Test.YtjokcfenncogkaaDo12
namespace Go.Proofs.Ytjokcfenncogkaa
open Go.RowKit Go.Shelf
set_option linter.unusedVariables false
set_option linter.unusedSimpArgs false

theorem those_set (L : List Cl) (n : Nat) (h : n ≤ L.length) : (those (isAt L) n).length = ((L.take n).map cnt).sum := by
  induction n with
  | zero => simp [those]
  | succ n ih =>
    have hlt : n < L.length := by omega
    rw [those_succ, List.take_succ_eq_append_getElem hlt, List.map_append, List.sum_append, ← ih (by omega)]
    have e : isAt L n = (L[n]).at_ := isAt_of (List.getElem?_eq_getElem hlt)
    simp only [List.map_cons, List.map_nil, List.sum_cons, List.sum_nil]
    unfold cnt
    rw [e]
    by_cases h : (L[n]).at_ <;> simp [h]
theorem attrs_len (X : Spc) : X.attrs.length = attrsN X.L := by
  unfold Spc.attrs attrsN
  rw [those_set _ _ (Nat.le_refl _), List.take_length]
set_option maxRecDepth 100000 in
set_option maxHeartbeats 6400000 in
theorem lsame_is {B p q : Nat} {X : Spc} {w : World} (hp : Pair B w p q X) (ok : X.Ok) :
    Calls Try.prog 47 #[.pointer (some ⟨p, 0, none⟩), .pointer (some ⟨q, 0, none⟩)] w fun e w' => e = .returned (.bool true) ∧ Up w w' := by
  obtain ⟨g, h, hs, hr, hne, hbb⟩ := hp
  have HS := Lib.hid hs
  have HR := Lib.hid hr
  have HO := Lib.hid ok
  have hb := ok.big
  have hsm := ok.small
  have HAT := Lib.hid (fun W (hr : RAt W q h X) => rattrs_is hr ok)
  have HFO := Lib.hid (fun W (hs : SAt W p g X) => sform_is hs)
  have HCO := Lib.hid (fun W (b : Nat) (hs : SAt W p g X) (hb : W.cell? ⟨b, 0, none⟩ = some (.pointer (some ⟨p, 0, none⟩))) => collect_attrs hs ok rfl hb)
  have HCE := Lib.hid (fun W (hs : SAt W p g X) => show Calls Try.prog 65 #[.pointer (some ⟨p, 0, none⟩), .int .i64 100000] W fun e w' => ∃ A c, e = .returned (.slice A X.L.length c) ∧ OwnC W.heap.size w' A X.L.length c X.L ∧ Up W w' from lcells_is (most := 100000) hs ok (by omega) (by omega) (List.take_of_length_le (by omega)))
  have HAL := Lib.hid (fun W (hs : SAt W p g X) => salt_is hs)
  have hal := attrs_len X
  have hal2 := attrsN_le X.L
  have hL0 : 0 < X.L.length := by omega
  have hL6 : X.L.length ≤ 65536 := by omega
  obtain ⟨La, hLa⟩ : ∃ La, X.attrs = La := ⟨_, rfl⟩
  rw [hLa] at HAT HCO hal
  rw [← hal] at HFO hal2
  have hLa6 : La.length ≤ 65536 := by omega
  obtain ⟨CL, hCL⟩ : ∃ CL, X.L = CL := ⟨_, rfl⟩
  have HLX := Lib.hid hCL
  have k0 := hr.h0
  have k1 := hr.h1
  have k2 := hr.h2
  have k3 := hr.h3
  obtain ⟨cap, q1, q2, k4⟩ := hr.h4
  have k5 := hr.h5
  have zq := hr.lt
  have HCR := Lib.hid hr.cells
  rw [hCL] at HCE k4 q1 hL0 hL6 HCR
  have hcp : (cap : Int) ≤ 9223372036854775807 := by simp [maxLen] at q2; omega
  have e1 : (X.alt != X.alt) = false := by simp
  generalize hXa : X.alt = al at *
  clear hal hal2 hLa hCL hs hr ok hXa hb hsm hne hbb
  have ez := fun W => eqSz X.r X.c X.r X.c W
  simp only [beq_self_eq_true, Bool.and_self] at ez
  rcases Nat.eq_zero_or_pos La.length with hk0 | hk0
  · obtain rfl : La = [] := List.eq_nil_of_length_eq_zero hk0
    clear hk0
    rw [show decide (0 < ([] : List Int).length) = false from rfl] at HFO
    simp only [List.length_nil] at HAT HCO
    go_enter Try.func47, Try.ntmps47
    go_wp2_with fail
    refine wp_region_mix (NS := [(43, RMs [])]) [43] rfl (by kernel_rfl) (by kernel_rfl) (by simp) (by intro p hp; simp only [List.mem_cons, List.mem_nil_iff, or_false] at hp; rcases hp with rfl; all_goals (first | exact rsl_up _ | exact rptr_up _ | exact rms_up _ | exact spanAt_up _ _ _ _ _ | exact rcs_up _ | exact rfb_up _ _)) ?_
    repeat (first
      | (refine mix_skip rfl rfl ?_; simp only [Act.put, List.setIfInBounds_toArray, List.set_cons_succ, List.set_cons_zero])
      | (refine mix_q rfl rfl rfl (by kernel_rfl) rfl rfl rfl ?_
         apply Exists.intro
         refine ⟨fun Wm => ?_, ?_⟩
         · simp only [fin]
           repeat (rintro (vm : Value) hvm; first | (obtain ⟨gm, om, rfl, hgm, hcm⟩ := hvm) | (obtain ⟨gm, om, cm, rfl, h2m, hxm, hgm, hcm, hdm⟩ := rsl_two hvm) | (obtain ⟨Am, nm, cm, rfl, hnm, hlm, hmm, hrm⟩ := hvm; (try simp only [List.length_cons, List.length_nil, Nat.zero_add, Nat.reduceAdd] at hnm); subst hnm) | (have hvs := hvm; obtain ⟨bm1, bm2, bm3, rfl, hbl, hbz, hbc⟩ := hvm))
           intro K hK
           go_wp2_with ((first | (go_at_call 66; (with_reducible refine (smodel_is (HS.out.up (up_upOf _ _))).mono ?_); rintro e w' ⟨rfl, rfl⟩) | (go_at_call 67; (with_reducible refine (HAL.out _ (HS.out.up (up_upOf _ _))).mono ?_); rintro e w' ⟨rfl, rfl⟩) | (go_at_call 25; (with_reducible refine (ssize_is (HS.out.up (up_upOf _ _))).mono ?_); rintro e w' ⟨rfl, hux⟩) | (go_at_call 33; (with_reducible refine (scur_is (HS.out.up (up_upOf _ _))).mono ?_); rintro e w' ⟨rfl, rfl⟩) | (go_at_call 68; (with_reducible refine (HFO.out _ (HS.out.up (up_upOf _ _))).mono ?_); rintro e w' ⟨rfl, rfl⟩) | (go_at_call 70; (with_reducible refine (HAT.out _ (HR.out.up (up_upOf _ _))).mono ?_); rintro e w' ⟨Ax, cx, rfl, hRx, hux⟩; have hRy := OwnI.told hRx)))
           refine hK _ _ ?_ ?_ ?_
           · (repeat (first | with_reducible exact Up.refl _ | with_reducible refine Up.alloc ?_ _ | with_reducible refine Up.drew ?_ | with_reducible refine Up.drewN ?_ _ | with_reducible refine Up.setCell ?_ (by (try simp) <;> omega) _ | with_reducible assumption | with_reducible refine Up.trans ?_ (by assumption)))
           · rfl
           · exact tmps_at rfl
         simp only [Act.put, List.setIfInBounds_toArray, List.set_cons_succ, List.set_cons_zero])
      | (refine mix_n rfl rfl rfl (by kernel_rfl) rfl rfl rfl ?_ ?_
         · intro Wm
           simp only [fin]
           repeat (rintro (vm : Value) hvm; first | (obtain ⟨gm, om, rfl, hgm, hcm⟩ := hvm) | (obtain ⟨gm, om, cm, rfl, h2m, hxm, hgm, hcm, hdm⟩ := rsl_two hvm) | (obtain ⟨Am, nm, cm, rfl, hnm, hlm, hmm, hrm⟩ := hvm; (try simp only [List.length_cons, List.length_nil, Nat.zero_add, Nat.reduceAdd] at hnm); subst hnm) | (have hvs := hvm; obtain ⟨bm1, bm2, bm3, rfl, hbl, hbz, hbc⟩ := hvm))
           intro K hK
           go_wp2_with ((first | (go_at_call 66; (with_reducible refine (smodel_is (HS.out.up (up_upOf _ _))).mono ?_); rintro e w' ⟨rfl, rfl⟩) | (go_at_call 67; (with_reducible refine (HAL.out _ (HS.out.up (up_upOf _ _))).mono ?_); rintro e w' ⟨rfl, rfl⟩) | (go_at_call 25; (with_reducible refine (ssize_is (HS.out.up (up_upOf _ _))).mono ?_); rintro e w' ⟨rfl, hux⟩) | (go_at_call 33; (with_reducible refine (scur_is (HS.out.up (up_upOf _ _))).mono ?_); rintro e w' ⟨rfl, rfl⟩) | (go_at_call 68; (with_reducible refine (HFO.out _ (HS.out.up (up_upOf _ _))).mono ?_); rintro e w' ⟨rfl, rfl⟩) | (go_at_call 70; (with_reducible refine (HAT.out _ (HR.out.up (up_upOf _ _))).mono ?_); rintro e w' ⟨Ax, cx, rfl, hRx, hux⟩; have hRy := OwnI.told hRx)))
           apply hK
           · (repeat (first | with_reducible exact Up.refl _ | with_reducible refine Up.alloc ?_ _ | with_reducible refine Up.drew ?_ | with_reducible refine Up.drewN ?_ _ | with_reducible refine Up.setCell ?_ (by (try simp) <;> omega) _ | with_reducible assumption | with_reducible refine Up.trans ?_ (by assumption)))
           · rfl
           · exact tmps_at rfl
           · first | exact rsl_lit _ _ _ _ _ _ rfl rfl (by simp [maxLen]) rfl | exact ⟨_, _, rfl, hgm, hcm⟩ | exact ⟨_, _, rfl, hgm, hdm⟩ | assumption
         simp only [Act.put, List.setIfInBounds_toArray, List.set_cons_succ, List.set_cons_zero]))
    refine mix_nil ?_
    intro w1 hb_w1
    simp only [fin]
    intro vm_w1_0 hvm_w1_0
    simp only [Act.put, List.setIfInBounds_toArray, List.set_cons_succ, List.set_cons_zero]
    have hu_w1 : Up w w1 := by (repeat (first | with_reducible exact Up.refl _ | with_reducible refine Up.alloc ?_ _ | with_reducible refine Up.drew ?_ | with_reducible refine Up.drewN ?_ _ | with_reducible refine Up.setCell ?_ (by (try simp) <;> omega) _ | with_reducible assumption | with_reducible refine Up.trans ?_ (by assumption)))
    have hz_w1 := Up.size hb_w1
    try simp at hz_w1
    obtain ⟨bd_w1_0, be_w1_0⟩ := hb_w1.at_ (q) (by (try simp) <;> omega)
    have zb_w1_0 : q < w1.heap.size := by omega
    go_wp2_with fail
    refine wp_region_mix (NS := [(49, RCs CL), (57, RFb 157 p), (58, RMs []), (60, RMs [])]) [49, 57, 58, 60] rfl (by kernel_rfl) (by kernel_rfl) (by simp) (by intro p hp; simp only [List.mem_cons, List.mem_nil_iff, or_false] at hp; rcases hp with rfl | rfl | rfl | rfl; all_goals (first | exact rsl_up _ | exact rptr_up _ | exact rms_up _ | exact spanAt_up _ _ _ _ _ | exact rcs_up _ | exact rfb_up _ _)) ?_
    repeat (first
      | (refine mix_skip rfl rfl ?_; simp only [Act.put, List.setIfInBounds_toArray, List.set_cons_succ, List.set_cons_zero])
      | (refine mix_q rfl rfl rfl (by kernel_rfl) rfl rfl rfl ?_
         apply Exists.intro
         refine ⟨fun Wm => ?_, ?_⟩
         · simp only [fin]
           repeat (rintro (vm : Value) hvm; first | (obtain ⟨gm, om, rfl, hgm, hcm⟩ := hvm) | (obtain ⟨gm, om, cm, rfl, h2m, hxm, hgm, hcm, hdm⟩ := rsl_two hvm) | (obtain ⟨Am, nm, cm, rfl, hnm, hlm, hmm, hrm⟩ := hvm; (try simp only [List.length_cons, List.length_nil, Nat.zero_add, Nat.reduceAdd] at hnm); subst hnm) | (have hvs := hvm; obtain ⟨bm1, bm2, bm3, rfl, hbl, hbz, hbc⟩ := hvm))
           intro K hK
           go_wp2_with ((first | (go_at_call 65; (with_reducible refine (HCE.out _ (HS.out.up (hu_w1.trans (up_upOf _ _)))).mono ?_); rintro e w' ⟨Ax, cx, rfl, hRx, hux⟩; have hRy := OwnC.told hRx hL0) | (go_at_call 71; obtain ⟨gx, rfl, hcx⟩ := hrm; (with_reducible refine (eq_cs hcx (HCR.out.up (hu_w1.trans (up_upOf _ _))) hL6 rfl rfl hlm q1 hmm q2).mono ?_); rintro e w' ⟨rfl, hux⟩) | (go_at_call 123; (with_reducible refine (attrs_fb p _).mono ?_); rintro e w' ⟨vx, rfl, hRx, hux⟩) | (go_at_call 55; (with_reducible refine (HCO.out _ _ (HS.out.up (hu_w1.trans (up_upOf _ _))) hbc).mono ?_); rintro e w' ⟨Ax, cx, rfl, hRx, hux⟩) | (go_at_call 70; (with_reducible refine (HAT.out _ (HR.out.up (hu_w1.trans (up_upOf _ _)))).mono ?_); rintro e w' ⟨Ax, cx, rfl, hRx, hux⟩; have hRy := OwnI.told hRx) | (go_at_call 58; (with_reducible refine (eq_ms (by assumption) (by assumption) hLa6).mono ?_); rintro e w' ⟨rfl, hux⟩)))
           refine hK _ _ ?_ ?_ ?_
           · (repeat (first | with_reducible exact Up.refl _ | with_reducible refine Up.alloc ?_ _ | with_reducible refine Up.drew ?_ | with_reducible refine Up.drewN ?_ _ | with_reducible refine Up.setCell ?_ (by (try simp) <;> omega) _ | with_reducible assumption | with_reducible refine Up.trans ?_ (by assumption)))
           · rfl
           · exact tmps_at rfl
         simp only [Act.put, List.setIfInBounds_toArray, List.set_cons_succ, List.set_cons_zero])
      | (refine mix_n rfl rfl rfl (by kernel_rfl) rfl rfl rfl ?_ ?_
         · intro Wm
           simp only [fin]
           repeat (rintro (vm : Value) hvm; first | (obtain ⟨gm, om, rfl, hgm, hcm⟩ := hvm) | (obtain ⟨gm, om, cm, rfl, h2m, hxm, hgm, hcm, hdm⟩ := rsl_two hvm) | (obtain ⟨Am, nm, cm, rfl, hnm, hlm, hmm, hrm⟩ := hvm; (try simp only [List.length_cons, List.length_nil, Nat.zero_add, Nat.reduceAdd] at hnm); subst hnm) | (have hvs := hvm; obtain ⟨bm1, bm2, bm3, rfl, hbl, hbz, hbc⟩ := hvm))
           intro K hK
           go_wp2_with ((first | (go_at_call 65; (with_reducible refine (HCE.out _ (HS.out.up (hu_w1.trans (up_upOf _ _)))).mono ?_); rintro e w' ⟨Ax, cx, rfl, hRx, hux⟩; have hRy := OwnC.told hRx hL0) | (go_at_call 71; obtain ⟨gx, rfl, hcx⟩ := hrm; (with_reducible refine (eq_cs hcx (HCR.out.up (hu_w1.trans (up_upOf _ _))) hL6 rfl rfl hlm q1 hmm q2).mono ?_); rintro e w' ⟨rfl, hux⟩) | (go_at_call 123; (with_reducible refine (attrs_fb p _).mono ?_); rintro e w' ⟨vx, rfl, hRx, hux⟩) | (go_at_call 55; (with_reducible refine (HCO.out _ _ (HS.out.up (hu_w1.trans (up_upOf _ _))) hbc).mono ?_); rintro e w' ⟨Ax, cx, rfl, hRx, hux⟩) | (go_at_call 70; (with_reducible refine (HAT.out _ (HR.out.up (hu_w1.trans (up_upOf _ _)))).mono ?_); rintro e w' ⟨Ax, cx, rfl, hRx, hux⟩; have hRy := OwnI.told hRx) | (go_at_call 58; (with_reducible refine (eq_ms (by assumption) (by assumption) hLa6).mono ?_); rintro e w' ⟨rfl, hux⟩)))
           apply hK
           · (repeat (first | with_reducible exact Up.refl _ | with_reducible refine Up.alloc ?_ _ | with_reducible refine Up.drew ?_ | with_reducible refine Up.drewN ?_ _ | with_reducible refine Up.setCell ?_ (by (try simp) <;> omega) _ | with_reducible assumption | with_reducible refine Up.trans ?_ (by assumption)))
           · rfl
           · exact tmps_at rfl
           · first | exact rsl_lit _ _ _ _ _ _ rfl rfl (by simp [maxLen]) rfl | exact ⟨_, _, rfl, hgm, hcm⟩ | exact ⟨_, _, rfl, hgm, hdm⟩ | assumption
         simp only [Act.put, List.setIfInBounds_toArray, List.set_cons_succ, List.set_cons_zero]))
    refine mix_nil ?_
    intro w2 hb_w2
    simp only [fin]
    intro vm_w2_0 hvm_w2_0
    intro vm_w2_1 hvm_w2_1
    intro vm_w2_2 hvm_w2_2
    intro vm_w2_3 hvm_w2_3
    simp only [Act.put, List.setIfInBounds_toArray, List.set_cons_succ, List.set_cons_zero]
    have hu_w2 : Up w1 w2 := by (repeat (first | with_reducible exact Up.refl _ | with_reducible refine Up.alloc ?_ _ | with_reducible refine Up.drew ?_ | with_reducible refine Up.drewN ?_ _ | with_reducible refine Up.setCell ?_ (by (try simp) <;> omega) _ | with_reducible assumption | with_reducible refine Up.trans ?_ (by assumption)))
    have hz_w2 := Up.size hb_w2
    try simp at hz_w2
    obtain ⟨bc_w2_0, bf_w2_0⟩ := hu_w2.at_ (q) (by omega)
    have zb_w2_0 : q < w2.heap.size := by omega
    go_wp2_with fail
    go_ret
    exact ⟨rfl, hu_w1.trans hb_w2⟩
  · rw [decide_eq_true hk0] at HFO
    have hk1 : (0 : Int) < (La.length : Int) := by omega
    go_enter Try.func47, Try.ntmps47
    go_wp2_with fail
    refine wp_region_mix (NS := [(43, RMs La)]) [43] rfl (by kernel_rfl) (by kernel_rfl) (by simp) (by intro p hp; simp only [List.mem_cons, List.mem_nil_iff, or_false] at hp; rcases hp with rfl; all_goals (first | exact rsl_up _ | exact rptr_up _ | exact rms_up _ | exact spanAt_up _ _ _ _ _ | exact rcs_up _ | exact rfb_up _ _)) ?_
    repeat (first
      | (refine mix_skip rfl rfl ?_; simp only [Act.put, List.setIfInBounds_toArray, List.set_cons_succ, List.set_cons_zero])
      | (refine mix_q rfl rfl rfl (by kernel_rfl) rfl rfl rfl ?_
         apply Exists.intro
         refine ⟨fun Wm => ?_, ?_⟩
         · simp only [fin]
           repeat (rintro (vm : Value) hvm; first | (obtain ⟨gm, om, rfl, hgm, hcm⟩ := hvm) | (obtain ⟨gm, om, cm, rfl, h2m, hxm, hgm, hcm, hdm⟩ := rsl_two hvm) | (obtain ⟨Am, nm, cm, rfl, hnm, hlm, hmm, hrm⟩ := hvm; (try simp only [List.length_cons, List.length_nil, Nat.zero_add, Nat.reduceAdd] at hnm); subst hnm) | (have hvs := hvm; obtain ⟨bm1, bm2, bm3, rfl, hbl, hbz, hbc⟩ := hvm))
           intro K hK
           go_wp2_with ((first | (go_at_call 66; (with_reducible refine (smodel_is (HS.out.up (up_upOf _ _))).mono ?_); rintro e w' ⟨rfl, rfl⟩) | (go_at_call 67; (with_reducible refine (HAL.out _ (HS.out.up (up_upOf _ _))).mono ?_); rintro e w' ⟨rfl, rfl⟩) | (go_at_call 25; (with_reducible refine (ssize_is (HS.out.up (up_upOf _ _))).mono ?_); rintro e w' ⟨rfl, hux⟩) | (go_at_call 33; (with_reducible refine (scur_is (HS.out.up (up_upOf _ _))).mono ?_); rintro e w' ⟨rfl, rfl⟩) | (go_at_call 68; (with_reducible refine (HFO.out _ (HS.out.up (up_upOf _ _))).mono ?_); rintro e w' ⟨rfl, rfl⟩) | (go_at_call 70; (with_reducible refine (HAT.out _ (HR.out.up (up_upOf _ _))).mono ?_); rintro e w' ⟨Ax, cx, rfl, hRx, hux⟩; have hRy := OwnI.told hRx)))
           refine hK _ _ ?_ ?_ ?_
           · (repeat (first | with_reducible exact Up.refl _ | with_reducible refine Up.alloc ?_ _ | with_reducible refine Up.drew ?_ | with_reducible refine Up.drewN ?_ _ | with_reducible refine Up.setCell ?_ (by (try simp) <;> omega) _ | with_reducible assumption | with_reducible refine Up.trans ?_ (by assumption)))
           · rfl
           · exact tmps_at rfl
         simp only [Act.put, List.setIfInBounds_toArray, List.set_cons_succ, List.set_cons_zero])
      | (refine mix_n rfl rfl rfl (by kernel_rfl) rfl rfl rfl ?_ ?_
         · intro Wm
           simp only [fin]
           repeat (rintro (vm : Value) hvm; first | (obtain ⟨gm, om, rfl, hgm, hcm⟩ := hvm) | (obtain ⟨gm, om, cm, rfl, h2m, hxm, hgm, hcm, hdm⟩ := rsl_two hvm) | (obtain ⟨Am, nm, cm, rfl, hnm, hlm, hmm, hrm⟩ := hvm; (try simp only [List.length_cons, List.length_nil, Nat.zero_add, Nat.reduceAdd] at hnm); subst hnm) | (have hvs := hvm; obtain ⟨bm1, bm2, bm3, rfl, hbl, hbz, hbc⟩ := hvm))
           intro K hK
           go_wp2_with ((first | (go_at_call 66; (with_reducible refine (smodel_is (HS.out.up (up_upOf _ _))).mono ?_); rintro e w' ⟨rfl, rfl⟩) | (go_at_call 67; (with_reducible refine (HAL.out _ (HS.out.up (up_upOf _ _))).mono ?_); rintro e w' ⟨rfl, rfl⟩) | (go_at_call 25; (with_reducible refine (ssize_is (HS.out.up (up_upOf _ _))).mono ?_); rintro e w' ⟨rfl, hux⟩) | (go_at_call 33; (with_reducible refine (scur_is (HS.out.up (up_upOf _ _))).mono ?_); rintro e w' ⟨rfl, rfl⟩) | (go_at_call 68; (with_reducible refine (HFO.out _ (HS.out.up (up_upOf _ _))).mono ?_); rintro e w' ⟨rfl, rfl⟩) | (go_at_call 70; (with_reducible refine (HAT.out _ (HR.out.up (up_upOf _ _))).mono ?_); rintro e w' ⟨Ax, cx, rfl, hRx, hux⟩; have hRy := OwnI.told hRx)))
           apply hK
           · (repeat (first | with_reducible exact Up.refl _ | with_reducible refine Up.alloc ?_ _ | with_reducible refine Up.drew ?_ | with_reducible refine Up.drewN ?_ _ | with_reducible refine Up.setCell ?_ (by (try simp) <;> omega) _ | with_reducible assumption | with_reducible refine Up.trans ?_ (by assumption)))
           · rfl
           · exact tmps_at rfl
           · first | exact rsl_lit _ _ _ _ _ _ rfl rfl (by simp [maxLen]) rfl | exact ⟨_, _, rfl, hgm, hcm⟩ | exact ⟨_, _, rfl, hgm, hdm⟩ | assumption
         simp only [Act.put, List.setIfInBounds_toArray, List.set_cons_succ, List.set_cons_zero]))
    refine mix_nil ?_
    intro w1 hb_w1
    simp only [fin]
    intro vm_w1_0 hvm_w1_0
    simp only [Act.put, List.setIfInBounds_toArray, List.set_cons_succ, List.set_cons_zero]
    have hu_w1 : Up w w1 := by (repeat (first | with_reducible exact Up.refl _ | with_reducible refine Up.alloc ?_ _ | with_reducible refine Up.drew ?_ | with_reducible refine Up.drewN ?_ _ | with_reducible refine Up.setCell ?_ (by (try simp) <;> omega) _ | with_reducible assumption | with_reducible refine Up.trans ?_ (by assumption)))
    have hz_w1 := Up.size hb_w1
    try simp at hz_w1
    obtain ⟨bd_w1_0, be_w1_0⟩ := hb_w1.at_ (q) (by (try simp) <;> omega)
    have zb_w1_0 : q < w1.heap.size := by omega
    go_wp2_with fail
    refine wp_region_mix (NS := [(49, RCs CL), (57, RFb 157 p), (58, RMs La), (60, RMs La)]) [49, 57, 58, 60] rfl (by kernel_rfl) (by kernel_rfl) (by simp) (by intro p hp; simp only [List.mem_cons, List.mem_nil_iff, or_false] at hp; rcases hp with rfl | rfl | rfl | rfl; all_goals (first | exact rsl_up _ | exact rptr_up _ | exact rms_up _ | exact spanAt_up _ _ _ _ _ | exact rcs_up _ | exact rfb_up _ _)) ?_
    repeat (first
      | (refine mix_skip rfl rfl ?_; simp only [Act.put, List.setIfInBounds_toArray, List.set_cons_succ, List.set_cons_zero])
      | (refine mix_q rfl rfl rfl (by kernel_rfl) rfl rfl rfl ?_
         apply Exists.intro
         refine ⟨fun Wm => ?_, ?_⟩
         · simp only [fin]
           repeat (rintro (vm : Value) hvm; first | (obtain ⟨gm, om, rfl, hgm, hcm⟩ := hvm) | (obtain ⟨gm, om, cm, rfl, h2m, hxm, hgm, hcm, hdm⟩ := rsl_two hvm) | (obtain ⟨Am, nm, cm, rfl, hnm, hlm, hmm, hrm⟩ := hvm; (try simp only [List.length_cons, List.length_nil, Nat.zero_add, Nat.reduceAdd] at hnm); subst hnm) | (have hvs := hvm; obtain ⟨bm1, bm2, bm3, rfl, hbl, hbz, hbc⟩ := hvm))
           intro K hK
           go_wp2_with ((first | (go_at_call 65; (with_reducible refine (HCE.out _ (HS.out.up (hu_w1.trans (up_upOf _ _)))).mono ?_); rintro e w' ⟨Ax, cx, rfl, hRx, hux⟩; have hRy := OwnC.told hRx hL0) | (go_at_call 71; obtain ⟨gx, rfl, hcx⟩ := hrm; (with_reducible refine (eq_cs hcx (HCR.out.up (hu_w1.trans (up_upOf _ _))) hL6 rfl rfl hlm q1 hmm q2).mono ?_); rintro e w' ⟨rfl, hux⟩) | (go_at_call 123; (with_reducible refine (attrs_fb p _).mono ?_); rintro e w' ⟨vx, rfl, hRx, hux⟩) | (go_at_call 55; (with_reducible refine (HCO.out _ _ (HS.out.up (hu_w1.trans (up_upOf _ _))) hbc).mono ?_); rintro e w' ⟨Ax, cx, rfl, hRx, hux⟩) | (go_at_call 70; (with_reducible refine (HAT.out _ (HR.out.up (hu_w1.trans (up_upOf _ _)))).mono ?_); rintro e w' ⟨Ax, cx, rfl, hRx, hux⟩; have hRy := OwnI.told hRx) | (go_at_call 58; (with_reducible refine (eq_ms (by assumption) (by assumption) hLa6).mono ?_); rintro e w' ⟨rfl, hux⟩)))
           refine hK _ _ ?_ ?_ ?_
           · (repeat (first | with_reducible exact Up.refl _ | with_reducible refine Up.alloc ?_ _ | with_reducible refine Up.drew ?_ | with_reducible refine Up.drewN ?_ _ | with_reducible refine Up.setCell ?_ (by (try simp) <;> omega) _ | with_reducible assumption | with_reducible refine Up.trans ?_ (by assumption)))
           · rfl
           · exact tmps_at rfl
         simp only [Act.put, List.setIfInBounds_toArray, List.set_cons_succ, List.set_cons_zero])
      | (refine mix_n rfl rfl rfl (by kernel_rfl) rfl rfl rfl ?_ ?_
         · intro Wm
           simp only [fin]
           repeat (rintro (vm : Value) hvm; first | (obtain ⟨gm, om, rfl, hgm, hcm⟩ := hvm) | (obtain ⟨gm, om, cm, rfl, h2m, hxm, hgm, hcm, hdm⟩ := rsl_two hvm) | (obtain ⟨Am, nm, cm, rfl, hnm, hlm, hmm, hrm⟩ := hvm; (try simp only [List.length_cons, List.length_nil, Nat.zero_add, Nat.reduceAdd] at hnm); subst hnm) | (have hvs := hvm; obtain ⟨bm1, bm2, bm3, rfl, hbl, hbz, hbc⟩ := hvm))
           intro K hK
           go_wp2_with ((first | (go_at_call 65; (with_reducible refine (HCE.out _ (HS.out.up (hu_w1.trans (up_upOf _ _)))).mono ?_); rintro e w' ⟨Ax, cx, rfl, hRx, hux⟩; have hRy := OwnC.told hRx hL0) | (go_at_call 71; obtain ⟨gx, rfl, hcx⟩ := hrm; (with_reducible refine (eq_cs hcx (HCR.out.up (hu_w1.trans (up_upOf _ _))) hL6 rfl rfl hlm q1 hmm q2).mono ?_); rintro e w' ⟨rfl, hux⟩) | (go_at_call 123; (with_reducible refine (attrs_fb p _).mono ?_); rintro e w' ⟨vx, rfl, hRx, hux⟩) | (go_at_call 55; (with_reducible refine (HCO.out _ _ (HS.out.up (hu_w1.trans (up_upOf _ _))) hbc).mono ?_); rintro e w' ⟨Ax, cx, rfl, hRx, hux⟩) | (go_at_call 70; (with_reducible refine (HAT.out _ (HR.out.up (hu_w1.trans (up_upOf _ _)))).mono ?_); rintro e w' ⟨Ax, cx, rfl, hRx, hux⟩; have hRy := OwnI.told hRx) | (go_at_call 58; (with_reducible refine (eq_ms (by assumption) (by assumption) hLa6).mono ?_); rintro e w' ⟨rfl, hux⟩)))
           apply hK
           · (repeat (first | with_reducible exact Up.refl _ | with_reducible refine Up.alloc ?_ _ | with_reducible refine Up.drew ?_ | with_reducible refine Up.drewN ?_ _ | with_reducible refine Up.setCell ?_ (by (try simp) <;> omega) _ | with_reducible assumption | with_reducible refine Up.trans ?_ (by assumption)))
           · rfl
           · exact tmps_at rfl
           · first | exact rsl_lit _ _ _ _ _ _ rfl rfl (by simp [maxLen]) rfl | exact ⟨_, _, rfl, hgm, hcm⟩ | exact ⟨_, _, rfl, hgm, hdm⟩ | assumption
         simp only [Act.put, List.setIfInBounds_toArray, List.set_cons_succ, List.set_cons_zero]))
    refine mix_nil ?_
    intro w2 hb_w2
    simp only [fin]
    intro vm_w2_0 hvm_w2_0
    intro vm_w2_1 hvm_w2_1
    intro vm_w2_2 hvm_w2_2
    intro vm_w2_3 hvm_w2_3
    simp only [Act.put, List.setIfInBounds_toArray, List.set_cons_succ, List.set_cons_zero]
    have hu_w2 : Up w1 w2 := by (repeat (first | with_reducible exact Up.refl _ | with_reducible refine Up.alloc ?_ _ | with_reducible refine Up.drew ?_ | with_reducible refine Up.drewN ?_ _ | with_reducible refine Up.setCell ?_ (by (try simp) <;> omega) _ | with_reducible assumption | with_reducible refine Up.trans ?_ (by assumption)))
    have hz_w2 := Up.size hb_w2
    try simp at hz_w2
    obtain ⟨bc_w2_0, bf_w2_0⟩ := hu_w2.at_ (q) (by omega)
    have zb_w2_0 : q < w2.heap.size := by omega
    go_wp2_with fail
    go_ret
    exact ⟨rfl, hu_w1.trans hb_w2⟩
end Go.Proofs.Ytjokcfenncogkaa
