/-
  What an act does to the document's cursor. No condition.
-/
import Derived.Test.YtjokcfenncogkaaRdo15
namespace Go.Proofs.Ytjokcfenncogkaa
open Go.RowKit
set_option linter.unusedVariables false
set_option linter.unusedSimpArgs false

theorem RAt.goTo {w : World} {p g : Nat} {X : Spc} (h : RAt w p g X) (x : Int) : RAt (w.setCell ⟨p, 5, none⟩ (.int .i64 x)) p g (X.goTo x) := h.cur x
set_option maxRecDepth 100000 in
set_option maxHeartbeats 12800000 in
theorem rdo15_is {q h : Nat} {X : Spc} {w : World} (d rows cols : Int) (d0 : 0 ≤ d) (d1 : d ≤ 255) (hr : RAt w q h X) (ok : X.Ok) :
    Calls Try.prog 93 #[.pointer (some ⟨q, 0, none⟩), .agg #[.int .u8 d, .int .i64 rows, .int .i64 cols]] w fun e w' => e = .returned (.tuple #[]) ∧ RAt w' q h (X.goTo (cactN X d rows cols)) ∧ Keep (two q h) w w' := by
  have HR := Lib.hid hr
  have HO := Lib.hid ok
  have HA := Lib.hid (show cactN X d rows cols = if d % 6 = 0 then tabN X X.cur 1 else if d % 6 = 1 then tabN X X.cur (-1) else if d % 6 = 2 then X.first (lineN X) else if d % 6 = 3 then X.first 0 else if d % 6 = 4 then moveN X.r X.c X.cur rows cols else afterN X from rfl)
  have H0 := Lib.hid (fun W (h' : RAt W q h X) => rtab_f X.cur h' ok)
  have H1 := Lib.hid (fun W (h' : RAt W q h X) => rtab_b X.cur h' ok)
  have H2 := Lib.hid (fun W (h' : RAt W q h X) => rfirst_is (lineN X) h' ok)
  have H2A := Lib.hid (fun W => ref_at_good X.r X.c (X.cur / X.c + 1) 0 W ok.valid)
  have e2 : atN X.r X.c (X.cur / X.c + 1) 0 = lineN X := rfl
  rw [e2] at H2A
  have H3 := Lib.hid (fun W (h' : RAt W q h X) => rfirst_is 0 h' ok)
  have H4 := Lib.hid (fun W => ref_move_good X.r X.c X.cur rows cols W ok.valid)
  obtain ⟨k, hk⟩ : ∃ k, X.wrap (X.cur + 1) = k := ⟨_, rfl⟩
  have hw := ok.wrap (X.cur + 1)
  rw [hk] at hw
  have H5 := Lib.hid (fun W (h' : RAt W q h X) => rwrap_at (X.cur + 1) h' ok hk)
  have hm0 := Spc.pos ok
  have hln := ok.len
  have okk : (X.goTo (k : Int)).Ok := goTo_ok ok (by omega) (by have := hw.2; omega)
  obtain ⟨dd, hd⟩ : ∃ dd, X.at_ (k : Int) = dd := ⟨_, rfl⟩
  have hat := Spc.at_nat ok hw.2
  rw [hd] at hat
  have hAF : afterN X = if dd.at_ then (if fP dd.fa && fN dd.fa then tabN X (k : Int) 1 else ((k : Int) + 1) % (X.r * X.c)) else (k : Int) := by
    unfold afterN Spc.isA; rw [hw.1, hd]
  have H6 := Lib.hid (fun W (h' : RAt W q h (X.goTo (k : Int))) => rfield_is h' okk (k := k) hw.2 (show ((X.goTo (k : Int)).at_ (k : Int)).fa = dd.fa from congrArg Cl.fa hd))
  have H7 := Lib.hid (fun W (h' : RAt W q h (X.goTo (k : Int))) => rtab_f (k : Int) h' okk)
  obtain ⟨k2, hk2⟩ : ∃ k2, (X.goTo (k : Int)).wrap ((k : Int) + 1) = k2 := ⟨_, rfl⟩
  have hw2 := okk.wrap ((k : Int) + 1)
  rw [hk2] at hw2
  have H8 := Lib.hid (fun W (h' : RAt W q h (X.goTo (k : Int))) => rwrap_at ((k : Int) + 1) h' okk hk2)
  have e8 : ((k : Int) + 1) % (X.r * X.c) = (k2 : Int) := hw2.1
  have e7 : tabN (X.goTo (k : Int)) (k : Int) 1 = tabN X (k : Int) 1 := rfl
  rw [e7] at H7
  rw [e8] at hAF
  have HAF := Lib.hid hAF
  have HAT := Lib.hid hat
  have hz := valid_facts ok.valid
  have c0 := ok.cur0
  have c1 := ok.cur1
  have hsm := ok.small
  have hkm := hw.2
  obtain ⟨v, hv⟩ : ∃ v, cactN X d rows cols = v := ⟨_, rfl⟩
  rw [hv] at HA ⊢
  have hne := hr.ne
  have zq := hr.lt
  have zh := hr.cells.2.1
  have k2c := hr.h2
  have k3c := hr.h3
  have k5c := hr.h5
  have f5 := hr.free 5
  obtain ⟨cap, q1, q2, k4c⟩ := hr.h4
  have hcp : (cap : Int) ≤ 9223372036854775807 := by simp [maxLen] at q2; omega
  have hcz : (X.c == 0) = false := by simp; omega
  have hdv : 0 ≤ X.cur / X.c ∧ X.cur / X.c ≤ 3564 := ⟨Int.ediv_nonneg c0 (by omega), Int.le_trans (Int.ediv_le_self _ c0) (by omega)⟩
  obtain ⟨hdv0, hdv1⟩ := hdv
  have HC := Lib.hid hr.cells
  clear hr ok hv hk hw hd hat hAF okk hk2 hw2 e8 e7 e2 q2
  have hmd : 0 ≤ d % 6 ∧ d % 6 < 6 := by omega
  obtain ⟨e6, he6⟩ : ∃ e6, d % 6 = e6 := ⟨_, rfl⟩
  rw [he6] at hmd HA
  obtain ⟨m, hm⟩ : ∃ m, X.L.length = m := ⟨_, rfl⟩
  rw [hm] at hln c1 hsm hkm q1 k4c
  clear hm
  rcases (show e6 = 0 ∨ e6 = 1 ∨ e6 = 2 ∨ e6 = 3 ∨ e6 = 4 ∨ e6 = 5 by omega) with rfl | rfl | rfl | rfl | rfl | rfl
  all_goals
    (first | have E0 : (d % 6 == 0) = true := by rw [he6]; decide | have E0 : (d % 6 == 0) = false := by rw [he6]; decide)
    (first | have E1 : (d % 6 == 1) = true := by rw [he6]; decide | have E1 : (d % 6 == 1) = false := by rw [he6]; decide)
    (first | have E2 : (d % 6 == 2) = true := by rw [he6]; decide | have E2 : (d % 6 == 2) = false := by rw [he6]; decide)
    (first | have E3 : (d % 6 == 3) = true := by rw [he6]; decide | have E3 : (d % 6 == 3) = false := by rw [he6]; decide)
    (first | have E4 : (d % 6 == 4) = true := by rw [he6]; decide | have E4 : (d % 6 == 4) = false := by rw [he6]; decide)
    clear he6 hmd
    have HV := Lib.hid HA.out.symm
    simp at HV
  · generalize tabN X X.cur 1 = t at *
    go_enter Try.func93, Try.ntmps93
    go_wp2_with fail
    refine (H0.out _ (HR.out.up ((Up.refl w).alloc _))).mono ?_
    rintro e w2 ⟨rfl, hu2⟩
    have HU := Lib.hid (((Up.refl w).alloc _).trans hu2)
    have b5 := ((HU.out.at_ q zq).1 5).trans k5c
    have g5 := ((HU.out.at_ q zq).2 5).trans f5
    have zq2 : q < w2.heap.size := by have := HU.out.size; omega
    clear hu2
    go_wp2_with fail
    go_end0
    exact ⟨rfl, by rw [← HV.out]; exact (HR.out.up HU.out).goTo _, (Keep.of_up HU.out).setCell (.inl (.inl rfl)) _⟩
  · generalize tabN X X.cur (-1) = t at *
    go_enter Try.func93, Try.ntmps93
    go_wp2_with fail
    refine (H1.out _ (HR.out.up ((Up.refl w).alloc _))).mono ?_
    rintro e w2 ⟨rfl, hu2⟩
    have HU := Lib.hid (((Up.refl w).alloc _).trans hu2)
    have b5 := ((HU.out.at_ q zq).1 5).trans k5c
    have g5 := ((HU.out.at_ q zq).2 5).trans f5
    have zq2 : q < w2.heap.size := by have := HU.out.size; omega
    clear hu2
    go_wp2_with fail
    go_end0
    exact ⟨rfl, by rw [← HV.out]; exact (HR.out.up HU.out).goTo _, (Keep.of_up HU.out).setCell (.inl (.inl rfl)) _⟩
  · generalize X.first (lineN X) = t at *
    generalize lineN X = ln at *
    go_enter Try.func93, Try.ntmps93
    go_wp2_with fail
    refine wp_region_mixT 18 (NS := []) [] rfl (by kernel_rfl) (by kernel_rfl) (by simp) (by simp) ?_
    simp only [List.take_succ_cons, List.take_zero, List.drop_succ_cons, List.drop_zero]
    repeat (first
      | (refine mix_skip rfl rfl ?_; simp only [Act.put, List.setIfInBounds_toArray, List.set_cons_succ, List.set_cons_zero])
      | (refine mix_q rfl rfl rfl (by kernel_rfl) rfl rfl rfl ?_
         apply Exists.intro
         refine ⟨fun Wm => ?_, ?_⟩
         · simp only [fin]
           skip
           intro K hK
           go_wp2_with ((first | (go_at_call 136; (with_reducible refine (H2A.out _).mono ?_); rintro e w' ⟨rfl, hux⟩) | (go_at_call 44; (with_reducible refine (H2.out _ (HR.out.up (Up.trans ((Up.refl w).alloc _) (up_upOf _ _)))).mono ?_); rintro e w' ⟨rfl, hux⟩)))
           refine hK _ _ ?_ ?_ ?_
           · (repeat (first | with_reducible exact Up.refl _ | with_reducible refine Up.alloc ?_ _ | with_reducible refine Up.drew ?_ | with_reducible refine Up.drewN ?_ _ | with_reducible refine Up.setCell ?_ (by (try simp) <;> omega) _ | with_reducible assumption | with_reducible refine Up.trans ?_ (by assumption)))
           · rfl
           · exact tmps_at rfl
         simp only [Act.put, List.setIfInBounds_toArray, List.set_cons_succ, List.set_cons_zero]))
    refine mix_nil ?_
    intro w1 hb_w1
    simp only [fin]
    have hu_w1 : Up w w1 := by (repeat (first | with_reducible exact Up.refl _ | with_reducible refine Up.alloc ?_ _ | with_reducible refine Up.drew ?_ | with_reducible refine Up.drewN ?_ _ | with_reducible refine Up.setCell ?_ (by (try simp) <;> omega) _ | with_reducible assumption | with_reducible refine Up.trans ?_ (by assumption)))
    have hz_w1 := Up.size hb_w1
    try simp at hz_w1
    obtain ⟨bd_w1_0, be_w1_0⟩ := hb_w1.at_ (q) (by (try simp) <;> omega)
    obtain ⟨bd_w1_1, be_w1_1⟩ := hb_w1.at_ (w.heap.size) (by (try simp) <;> omega)
    have zb_w1_0 : q < w1.heap.size := by omega
    have zb_w1_1 : w.heap.size < w1.heap.size := by omega
    go_wp2_with fail
    go_end0
    have HU := Lib.hid (show Up w w1 by (repeat (first | with_reducible exact Up.refl _ | with_reducible refine Up.alloc ?_ _ | with_reducible refine Up.drew ?_ | with_reducible refine Up.drewN ?_ _ | with_reducible refine Up.setCell ?_ (by (try simp) <;> omega) _ | with_reducible assumption | with_reducible refine Up.trans ?_ (by assumption))))
    exact ⟨rfl, by rw [← HV.out]; exact (HR.out.up HU.out).goTo _, (Keep.of_up HU.out).setCell (.inl (.inl rfl)) _⟩
  · generalize X.first 0 = t at *
    go_enter Try.func93, Try.ntmps93
    go_wp2_with fail
    refine (H3.out _ (HR.out.up ((Up.refl w).alloc _))).mono ?_
    rintro e w2 ⟨rfl, hu2⟩
    have HU := Lib.hid (((Up.refl w).alloc _).trans hu2)
    have b5 := ((HU.out.at_ q zq).1 5).trans k5c
    have g5 := ((HU.out.at_ q zq).2 5).trans f5
    have zq2 : q < w2.heap.size := by have := HU.out.size; omega
    clear hu2
    go_wp2_with fail
    go_end0
    exact ⟨rfl, by rw [← HV.out]; exact (HR.out.up HU.out).goTo _, (Keep.of_up HU.out).setCell (.inl (.inl rfl)) _⟩
  · generalize moveN X.r X.c X.cur rows cols = t at *
    go_enter Try.func93, Try.ntmps93
    go_wp2_with fail
    refine wp_region_mixT 13 (NS := []) [] rfl (by kernel_rfl) (by kernel_rfl) (by simp) (by simp) ?_
    simp only [List.take_succ_cons, List.take_zero, List.drop_succ_cons, List.drop_zero]
    repeat (first
      | (refine mix_skip rfl rfl ?_; simp only [Act.put, List.setIfInBounds_toArray, List.set_cons_succ, List.set_cons_zero])
      | (refine mix_q rfl rfl rfl (by kernel_rfl) rfl rfl rfl ?_
         apply Exists.intro
         refine ⟨fun Wm => ?_, ?_⟩
         · simp only [fin]
           skip
           intro K hK
           go_wp2_with ((go_at_call 137; (with_reducible refine (H4.out _).mono ?_); rintro e w' ⟨rfl, hux⟩))
           refine hK _ _ ?_ ?_ ?_
           · (repeat (first | with_reducible exact Up.refl _ | with_reducible refine Up.alloc ?_ _ | with_reducible refine Up.drew ?_ | with_reducible refine Up.drewN ?_ _ | with_reducible refine Up.setCell ?_ (by (try simp) <;> omega) _ | with_reducible assumption | with_reducible refine Up.trans ?_ (by assumption)))
           · rfl
           · exact tmps_at rfl
         simp only [Act.put, List.setIfInBounds_toArray, List.set_cons_succ, List.set_cons_zero]))
    refine mix_nil ?_
    intro w1 hb_w1
    simp only [fin]
    have hu_w1 : Up w w1 := by (repeat (first | with_reducible exact Up.refl _ | with_reducible refine Up.alloc ?_ _ | with_reducible refine Up.drew ?_ | with_reducible refine Up.drewN ?_ _ | with_reducible refine Up.setCell ?_ (by (try simp) <;> omega) _ | with_reducible assumption | with_reducible refine Up.trans ?_ (by assumption)))
    have hz_w1 := Up.size hb_w1
    try simp at hz_w1
    obtain ⟨bd_w1_0, be_w1_0⟩ := hb_w1.at_ (q) (by (try simp) <;> omega)
    obtain ⟨bd_w1_1, be_w1_1⟩ := hb_w1.at_ (w.heap.size) (by (try simp) <;> omega)
    have zb_w1_0 : q < w1.heap.size := by omega
    have zb_w1_1 : w.heap.size < w1.heap.size := by omega
    go_wp2_with fail
    go_end0
    have HU := Lib.hid (show Up w w1 by (repeat (first | with_reducible exact Up.refl _ | with_reducible refine Up.alloc ?_ _ | with_reducible refine Up.drew ?_ | with_reducible refine Up.drewN ?_ _ | with_reducible refine Up.setCell ?_ (by (try simp) <;> omega) _ | with_reducible assumption | with_reducible refine Up.trans ?_ (by assumption))))
    exact ⟨rfl, by rw [← HV.out]; exact (HR.out.up HU.out).goTo _, (Keep.of_up HU.out).setCell (.inl (.inl rfl)) _⟩
  · obtain ⟨dch, da, dfa, dhi, dco, dse⟩ := dd
    simp only at HAF H6
    generalize fP dfa = b0 at *
    generalize fN dfa = b1 at *
    generalize fD dfa = b2 at *
    generalize fM dfa = b3 at *
    generalize tabN X (k : Int) 1 = t at *
    have hkm' : (k : Int) < (m : Int) := by omega
    go_enter Try.func93, Try.ntmps93
    go_wp2_with fail
    refine (H5.out _ (HR.out.up ((Up.refl w).alloc _))).mono ?_
    rintro e w2 ⟨rfl, hu2⟩
    have HU := Lib.hid (((Up.refl w).alloc _).trans hu2)
    have b4 := ((HU.out.at_ q zq).1 4).trans k4c
    have b5 := ((HU.out.at_ q zq).1 5).trans k5c
    have g5 := ((HU.out.at_ q zq).2 5).trans f5
    have zq2 : q < w2.heap.size := by have := HU.out.size; omega
    have zh2 : h < w2.heap.size := by have := HU.out.size; omega
    obtain ⟨x0, x1, x2, x3, x4, x5⟩ := (HC.out.keep (HU.out.block h zh)).2.2 k _ HAT.out
    simp only at x0 x1 x2 x3 x4 x5
    have hne' : h ≠ q := fun e => hne e.symm
    have HG := Lib.hid ((HR.out.up HU.out).goTo (k : Int))
    have HK := Lib.hid (show Keep (two q h) w (w2.setCell ⟨q, 5, none⟩ (.int .i64 (k : Int))) from (Keep.of_up HU.out).setCell (.inl (.inl rfl)) _)
    clear hu2 k2c k3c k4c k5c f5
    cases da
    · go_wp2_with fail
      go_end0
      exact ⟨rfl, by rw [← HV.out, HAF.out]; exact HG.out.up ((Up.refl _).alloc _), HK.out.up ((Up.refl _).alloc _)⟩
    · go_wp2_with fail
      refine (H6.out _ (HG.out.up ((Up.refl _).alloc _))).mono ?_
      rintro e w4 ⟨rfl, hu4⟩
      have HG4 := Lib.hid ((HG.out.up ((Up.refl _).alloc _)).up hu4)
      have HK4 := Lib.hid ((HK.out.up ((Up.refl _).alloc _)).up hu4)
      have HR4 := Lib.hid (show True ∧ v = (if (b0 && b1) = true then t else (k2 : Int)) from ⟨trivial, by have h1 := HV.out; have h2 := HAF.out; rw [← h1, h2]; simp⟩)
      have m5 := HG4.out.h5
      have n5 := HG4.out.free 5
      have zq4 := HG4.out.lt
      clear hu4 HAF HV
      cases b0 <;> cases b1
      all_goals
        have HE := Lib.hid HR4.out.2
        simp at HE
        go_wp2_with fail
        (first
          | refine (H7.out _ (HG4.out.up ((Up.refl _).alloc _))).mono ?_
          | refine (H8.out _ (HG4.out.up ((Up.refl _).alloc _))).mono ?_)
        rintro e w5 ⟨rfl, hu5⟩
        have HU5 := Lib.hid (((Up.refl w4).alloc _).trans hu5)
        have l5 := ((HU5.out.at_ q zq4).1 5).trans m5
        have o5 := ((HU5.out.at_ q zq4).2 5).trans n5
        have zq5 : q < w5.heap.size := by have := HU5.out.size; omega
        clear hu5
        go_wp2_with fail
        go_end0
        exact ⟨rfl, by rw [HE.out]; exact (HG4.out.up HU5.out).goTo _, (HK4.out.up HU5.out).setCell (.inl (.inl rfl)) _⟩
end Go.Proofs.Ytjokcfenncogkaa
