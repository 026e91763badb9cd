/-
  What the reference's Fit, Set, Put, Clear, New do. No condition.
-/
import Derived.Test.YtjokcfenncogkaaRs1
namespace Go.Proofs.Ytjokcfenncogkaa
open Go.RowKit
set_option linter.unusedVariables false
set_option linter.unusedSimpArgs false

set_option maxHeartbeats 800000 in
theorem fit_is (c : Cl) (hcw : c.Wf) (w : World) : Calls Try.prog 32 #[c.val] w fun e w' => e = .returned c.fit.val ∧ Up w w' := by
  have hfa := hcw.fa
  clear hcw
  obtain ⟨ch, a, fa, hi, co, se⟩ := c
  unfold Cl.val Cl.fit
  simp only at hfa
  cases a
  · go_enter Try.func32, Try.ntmps32
    go_wp2
    refine bodyPost_ret (v := .agg #[.int .u8 ch, .bool false, .int .u8 0, .int .u8 hi, .int .u8 co, .int .u8 se]) (by simp [results, Try.results32, go_sem]) rfl ⟨rfl, by (repeat (first | with_reducible exact Up.refl _ | with_reducible refine Up.alloc ?_ _ | with_reducible refine Up.drew ?_ | with_reducible refine Up.drewN ?_ _ | with_reducible refine Up.setCell ?_ (by (try simp) <;> omega) _ | with_reducible assumption | with_reducible refine Up.trans ?_ (by assumption)))⟩
  · have H6 := Lib.hid (fun w => six_is fa hfa.1 hfa.2 w)
    generalize six05 fa = v at *
    go_enter Try.func32, Try.ntmps32
    go_wp2_with fail
    refine (H6.out _).mono ?_
    rintro e w1 ⟨rfl, hb_w1⟩
    have hz_w1 := Up.size hb_w1
    try simp at hz_w1
    obtain ⟨bd_w1_0, be_w1_0⟩ := hb_w1.at_ (w.heap.size) (by (try simp) <;> omega)
    have zb_w1_0 : w.heap.size < w1.heap.size := by omega
    obtain ⟨bd_w1_1, be_w1_1⟩ := hb_w1.at_ (w.heap.size + 1) (by (try simp) <;> omega)
    have zb_w1_1 : w.heap.size + 1 < w1.heap.size := by omega
    go_wp2_with fail
    refine bodyPost_ret (v := .agg #[.int .u8 0, .bool true, .int .u8 v, .int .u8 hi, .int .u8 co, .int .u8 se]) (by simp [results, Try.results32, go_sem, bd_w1_0, bd_w1_1]) rfl ⟨rfl, by (repeat (first | with_reducible exact Up.refl _ | with_reducible refine Up.alloc ?_ _ | with_reducible refine Up.drew ?_ | with_reducible refine Up.drewN ?_ _ | with_reducible refine Up.setCell ?_ (by (try simp) <;> omega) _ | with_reducible assumption | with_reducible refine Up.trans ?_ (by assumption)))⟩
set_option maxHeartbeats 1600000 in
theorem rset_is {q h : Nat} {X : Spc} {w : World} (n : Int) (c : Cl) (hcw : c.Wf) (hr : RAt w q h X) (ok : X.Ok) :
    Calls Try.prog 131 #[.pointer (some ⟨q, 0, none⟩), .int .i64 n, c.val] w fun e w' => e = .returned (.tuple #[]) ∧ RAt w' q h (X.set n c) ∧ Keep (two q h) w w' := by
  have HR := Lib.hid hr
  have HO := Lib.hid ok
  obtain ⟨k, hk⟩ : ∃ k, X.wrap n = k := ⟨_, rfl⟩
  have hw := ok.wrap n
  rw [hk] at hw
  obtain ⟨hw1, hw2⟩ := hw
  have HK := Lib.hid hk
  have HP := Lib.hid (show X.set n c = { X with L := X.L.set k c.fit } by unfold Spc.set; rw [hk])
  obtain ⟨d, hd⟩ : ∃ d, X.L[k]? = some d := ⟨_, List.getElem?_eq_getElem hw2⟩
  have HD := Lib.hid hd
  obtain ⟨c0, c1, c2, c3, c4, c5⟩ := hr.cells.2.2 k d hd
  have f0 := hr.cells.1 (k * 6)
  have f1 := hr.cells.1 (k * 6 + 1)
  have f2 := hr.cells.1 (k * 6 + 2)
  have f3 := hr.cells.1 (k * 6 + 3)
  have f4 := hr.cells.1 (k * 6 + 4)
  have f5 := hr.cells.1 (k * 6 + 5)
  obtain ⟨cap, q1, q2, k4⟩ := hr.h4
  have zp := hr.lt
  have zg := hr.cells.2.1
  have HF := Lib.hid (fun w => fit_is c hcw w)
  obtain ⟨fc, hfc⟩ : ∃ fc, c.fit = fc := ⟨_, rfl⟩
  rw [hfc] at HF HP
  generalize X.L.length = m at *
  clear hd hk hw1 hr ok hfc hcw
  have hm : (k : Int) < (m : Int) := by omega
  have hcp : (cap : Int) ≤ 9223372036854775807 := by simp [maxLen] at q2; omega
  obtain ⟨ch, a, fa, hi, co, se⟩ := c
  obtain ⟨gch, ga, gfa, ghi, gco, gse⟩ := fc
  simp only [Cl.val] at HF
  go_enter Try.func131, Try.ntmps131
  simp only [Cl.val]
  go_wp2_with fail
  refine wp_region_mixT 10 (NS := []) [] rfl (by kernel_rfl) (by kernel_rfl) (by simp) (by simp) ?_
  simp only [List.take_succ_cons, List.take_zero, List.drop_succ_cons, List.drop_zero]
  repeat (first
    | (refine mix_skip rfl rfl ?_; simp only [Act.put, List.setIfInBounds_toArray, List.set_cons_succ, List.set_cons_zero])
    | (refine mix_q rfl rfl rfl (by kernel_rfl) rfl rfl rfl ?_
       apply Exists.intro
       refine ⟨fun Wm => ?_, ?_⟩
       · simp only [fin]
         skip
         intro K hK
         go_wp2_with ((first | (go_at_call 34; (with_reducible refine (rwrap_is n (HR.out.up (Up.trans ((Up.refl w).alloc _) (up_upOf _ _))) HO.out).mono ?_); rw [HK.out]; rintro e w' ⟨rfl, hux⟩) | (go_at_call 32; (with_reducible refine (HF.out _).mono ?_); rintro e w' ⟨rfl, hux⟩)))
         refine hK _ _ ?_ ?_ ?_
         · (repeat (first | with_reducible exact Up.refl _ | with_reducible refine Up.alloc ?_ _ | with_reducible refine Up.drew ?_ | with_reducible refine Up.drewN ?_ _ | with_reducible refine Up.setCell ?_ (by (try simp) <;> omega) _ | with_reducible assumption | with_reducible refine Up.trans ?_ (by assumption)))
         · rfl
         · exact tmps_at rfl
       simp only [Act.put, List.setIfInBounds_toArray, List.set_cons_succ, List.set_cons_zero]))
  refine mix_nil ?_
  intro w1 hb_w1
  simp only [fin]
  have hu_w1 : Up w w1 := by (repeat (first | with_reducible exact Up.refl _ | with_reducible refine Up.alloc ?_ _ | with_reducible refine Up.drew ?_ | with_reducible refine Up.drewN ?_ _ | with_reducible refine Up.setCell ?_ (by (try simp) <;> omega) _ | with_reducible assumption | with_reducible refine Up.trans ?_ (by assumption)))
  have hz_w1 := Up.size hb_w1
  try simp at hz_w1
  obtain ⟨bd_w1_0, be_w1_0⟩ := hb_w1.at_ (q) (by (try simp) <;> omega)
  obtain ⟨bd_w1_1, be_w1_1⟩ := hb_w1.at_ (h) (by (try simp) <;> omega)
  obtain ⟨bd_w1_2, be_w1_2⟩ := hb_w1.at_ (w.heap.size) (by (try simp) <;> omega)
  have zb_w1_0 : q < w1.heap.size := by omega
  have zb_w1_1 : h < w1.heap.size := by omega
  have zb_w1_2 : w.heap.size < w1.heap.size := by omega
  go_wp2_with fail
  go_end0
  have hu : Up w w1 := by (repeat (first | with_reducible exact Up.refl _ | with_reducible refine Up.alloc ?_ _ | with_reducible refine Up.drew ?_ | with_reducible refine Up.drewN ?_ _ | with_reducible refine Up.setCell ?_ (by (try simp) <;> omega) _ | with_reducible assumption | with_reducible refine Up.trans ?_ (by assumption)))
  have hs := (HR.out.up hu).setAt (List.getElem?_eq_some_iff.1 HD.out).1 ⟨gch, ga, gfa, ghi, gco, gse⟩
  refine ⟨rfl, ?_, ?_⟩
  · rw [HP.out]; exact hs
  · exact (Keep.of_up hu).trans ((store6_keep w1 h (k * 6) ⟨gch, ga, gfa, ghi, gco, gse⟩).mono fun k hk => .inr hk)
theorem set_put (X : Spc) (n x : Int) (ok : X.Ok) (ha : (X.at_ n).at_ = false) : X.set n { X.at_ n with ch := x } = X.put n x := by
  unfold Spc.set Spc.put putC
  rw [if_neg (by rw [ha]; simp)]
  congr 2
  have hw := (ok.wrap n).2
  have hf := ok.fit (X.at_ n) (by unfold Spc.at_; rw [List.getD, List.getElem?_eq_getElem hw]; exact List.getElem_mem _)
  have hfa : (X.at_ n).fa = 0 := by
    rw [← hf]; unfold Cl.fit; rw [if_neg (by rw [ha]; simp)]
  unfold Cl.fit
  rw [if_neg (by simp [ha])]
  simp [← hfa]
theorem put_attr (X : Spc) (n x : Int) (ok : X.Ok) (ha : (X.at_ n).at_ = true) : X.put n x = X := by
  unfold Spc.put putC
  rw [if_pos ha]
  have hw := (ok.wrap n).2
  have : X.L.set (X.wrap n) (X.at_ n) = X.L := by
    unfold Spc.at_; rw [List.getD, List.getElem?_eq_getElem hw]; exact List.set_getElem_self hw
  rw [this]
theorem Spc.Ok.at_wf {X : Spc} (ok : X.Ok) (n : Int) : (X.at_ n).Wf := by
  have hw := (ok.wrap n).2
  exact ok.wf _ (by unfold Spc.at_; rw [List.getD, List.getElem?_eq_getElem hw]; exact List.getElem_mem _)
set_option maxHeartbeats 800000 in
theorem rput_is {q h : Nat} {X : Spc} {w : World} (n x : Int) (hx : isB x) (hr : RAt w q h X) (ok : X.Ok) :
    Calls Try.prog 154 #[.pointer (some ⟨q, 0, none⟩), .int .i64 n, .int .u8 x] w fun e w' => e = .returned (.tuple #[]) ∧ RAt w' q h (X.put n x) ∧ Keep (two q h) w w' := by
  have HR := Lib.hid hr
  have HO := Lib.hid ok
  have HA := Lib.hid (fun w' (hu : Up w w') => rat_is (w := w') n (hr.up hu) ok)
  have hs := fun ha => set_put X n x ok ha
  have hpa := fun ha => put_attr X n x ok ha
  have hcw := ok.at_wf n
  obtain ⟨c, hc⟩ : ∃ c, X.at_ n = c := ⟨_, rfl⟩
  rw [hc] at HA hs hpa hcw
  obtain ⟨ch, a, fa, hi, co, se⟩ := c
  have HW := Lib.hid (show (⟨x, a, fa, hi, co, se⟩ : Cl).Wf from ⟨hx, hcw.fa, hcw.hi, hcw.co, hcw.se⟩)
  simp only [Cl.val] at HA
  simp only at hs hpa
  clear hc hr ok hcw hx
  cases a
  · have HS := Lib.hid (hs rfl)
    clear hs hpa
    go_enter Try.func154, Try.ntmps154
    go_wp2_with fail
    refine (HA.out _ (Up.refl _)).mono ?_
    rintro e w1 ⟨rfl, hb_w1⟩
    have hu_w1 : Up w w1 := by (repeat (first | with_reducible exact Up.refl _ | with_reducible refine Up.alloc ?_ _ | with_reducible refine Up.drew ?_ | with_reducible refine Up.drewN ?_ _ | with_reducible refine Up.setCell ?_ (by (try simp) <;> omega) _ | with_reducible assumption | with_reducible refine Up.trans ?_ (by assumption)))
    have hz_w1 := Up.size hb_w1
    try simp at hz_w1
    go_wp2_with fail
    have hu : Up w (w1.alloc (.cells #[.int .u8 x, .bool false, .int .u8 fa, .int .u8 hi, .int .u8 co, .int .u8 se] 25)) := by (repeat (first | with_reducible exact Up.refl _ | with_reducible refine Up.alloc ?_ _ | with_reducible refine Up.drew ?_ | with_reducible refine Up.drewN ?_ _ | with_reducible refine Up.setCell ?_ (by (try simp) <;> omega) _ | with_reducible assumption | with_reducible refine Up.trans ?_ (by assumption)))
    refine (rset_is n ⟨x, false, fa, hi, co, se⟩ HW.out (HR.out.up hu) HO.out).mono ?_
    rintro e w2 ⟨rfl, hr2, hk2⟩
    have HR2 := Lib.hid hr2
    have HK2 := Lib.hid ((Keep.of_up hu).trans hk2)
    clear hr2 hk2 hu
    go_wp2_with fail
    go_end0
    exact ⟨rfl, by rw [← HS.out]; exact HR2.out, HK2.out⟩
  · have HS := Lib.hid (hpa rfl)
    clear hs hpa
    go_enter Try.func154, Try.ntmps154
    go_wp2_with fail
    refine (HA.out _ (Up.refl _)).mono ?_
    rintro e w1 ⟨rfl, hb_w1⟩
    have hu_w1 : Up w w1 := by (repeat (first | with_reducible exact Up.refl _ | with_reducible refine Up.alloc ?_ _ | with_reducible refine Up.drew ?_ | with_reducible refine Up.drewN ?_ _ | with_reducible refine Up.setCell ?_ (by (try simp) <;> omega) _ | with_reducible assumption | with_reducible refine Up.trans ?_ (by assumption)))
    have hz_w1 := Up.size hb_w1
    try simp at hz_w1
    go_wp2_with fail
    go_end0
    exact ⟨rfl, by rw [HS.out]; exact HR.out.up (by (repeat (first | with_reducible exact Up.refl _ | with_reducible refine Up.alloc ?_ _ | with_reducible refine Up.drew ?_ | with_reducible refine Up.drewN ?_ _ | with_reducible refine Up.setCell ?_ (by (try simp) <;> omega) _ | with_reducible assumption | with_reducible refine Up.trans ?_ (by assumption)))), Keep.of_up (by (repeat (first | with_reducible exact Up.refl _ | with_reducible refine Up.alloc ?_ _ | with_reducible refine Up.drew ?_ | with_reducible refine Up.drewN ?_ _ | with_reducible refine Up.setCell ?_ (by (try simp) <;> omega) _ | with_reducible assumption | with_reducible refine Up.trans ?_ (by assumption))))⟩
end Go.Proofs.Ytjokcfenncogkaa
