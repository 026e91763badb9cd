/-
  The walk of law 22's QueryReads. No condition.
-/
import Derived.Test.YtfknakcjhlonoaaQReadP
namespace Go.Proofs.Ytfknakcjhlonoaa
open Go.RowKit
set_option linter.unusedVariables false
set_option linter.unusedSimpArgs false

theorem same_yes {B B' : Nat} {A A' : Option Addr} {n n' c c' : Nat} {l : List Int} {w : World} (h : Sl B w A n c l) (h' : Sl B' w A' n' c' l) :
    Calls Try.prog 12 #[.slice A n c, .slice A' n' c'] w fun e w' => e = .returned (.bool true) ∧ w = w' := by
  refine (same_sl h h').mono ?_
  rintro e w' ⟨rfl, rfl⟩
  exact ⟨by simp, rfl⟩
theorem same_rd {A A' : Option Addr} {n n' c c' B B' : Nat} {l l' : List Int} {w : World} {t : Bool} (hr : Reads w B 1 A n (bs l)) (hr' : Reads w B' 1 A' n' (bs l')) (hl : BL l) (hl' : BL l') (ht : decide (l = l') = t) :
    Calls Try.prog 12 #[.slice A n c, .slice A' n' c'] w fun e w' => e = .returned (.bool t) ∧ w = w' := by
  refine (same_any A A' n n' c c' B B' l l' w hr hr' hl hl').mono ?_
  rintro e w' ⟨rfl, rfl⟩
  exact ⟨by rw [ht], rfl⟩
theorem mod_of (r : Nat) (hr : r < 4) : ∃ rows cols, isMod (2 + (r : Int)) rows cols := by
  rcases (show r = 0 ∨ r = 1 ∨ r = 2 ∨ r = 3 by omega) with rfl | rfl | rfl | rfl
  · exact ⟨24, 80, .inl ⟨rfl, rfl, rfl⟩⟩
  · exact ⟨32, 80, .inr (.inl ⟨rfl, rfl, rfl⟩)⟩
  · exact ⟨43, 80, .inr (.inr (.inl ⟨rfl, rfl, rfl⟩))⟩
  · exact ⟨27, 132, .inr (.inr (.inr ⟨rfl, rfl, rfl⟩))⟩
theorem none5_bl : BL none5 := by unfold BL none5; decide
/-- what the few that are asked for say -/
theorem few_facts (rows cols k : Int) (cs : List Int) (hc : ∀ x ∈ cs, x ∈ codesL) : ∃ RF x rest t, repsOf (someL rows cols k cs) = (RF, 0) ∧ RF.map hd = x :: rest ∧ (x == 255) = t ∧ decide (someL rows cols k cs = none5) = t := by
  by_cases h : cs = []
  · subst h
    exact ⟨[[255]], 255, [], true, by rw [some_none]; exact reps_none, rfl, rfl, by rw [some_none]; simp⟩
  · obtain ⟨h1, h2⟩ := some_yes (rows := rows) (cols := cols) (k := k) h hc
    cases cs with
    | nil => exact absurd rfl h
    | cons x rest =>
      refine ⟨(x :: rest).map (rep1 rows cols k), x, rest, false, by rw [h1]; exact reps_body hc, heads_body rows cols k _, ?_, by rw [h1]; simpa using h2⟩
      have := hc x (by simp)
      rcases code_cases this with rfl | rfl | rfl | rfl | rfl | rfl | rfl <;> rfl
set_option maxRecDepth 100000 in
set_option maxHeartbeats 6400000 in
theorem law_reads (md nn : Int) (A : Option Addr) (n c : Nat) (l : List Int) (w : World) (a0 : 0 ≤ md) (a1 : md ≤ 255) (b0 : 0 ≤ nn) (b1 : nn ≤ 255) (hl : l.length = n) (hn : n ≤ c) (hc : c ≤ maxLen) (hw : ∀ x ∈ l, 0 ≤ x ∧ x ≤ 255) (hr : Reads w w.heap.size 1 A n (l.map (Value.int .u8))) :
    Calls Try.prog 3 #[.int .u8 md, .int .u8 nn, .slice A n c] w fun x w' => x = .returned (.bool true) ∧ Up w w' := by
  have HR : Hid (Reads w w.heap.size 1 A n (bs l)) := hr
  have HW := Lib.hid hw
  have HNC := Lib.hid hn
  have HCM := Lib.hid hc
  obtain ⟨r, hr4, hmod⟩ : ∃ r : Nat, r < 4 ∧ md.tmod 4 = (r : Int) := ⟨(md.tmod 4).toNat, by rw [Int.tmod_eq_emod_of_nonneg a0]; omega, by rw [Int.tmod_eq_emod_of_nonneg a0]; omega⟩
  obtain ⟨rows, cols, hm⟩ := mod_of r hr4
  have HM := Lib.hid hm
  have hiw : IntKind.i64.wrap (r : Int) = (r : Int) := by rcases (show r = 0 ∨ r = 1 ∨ r = 2 ∨ r = 3 by omega) with rfl | rfl | rfl | rfl <;> decide
  have hr256 : (r : Int) < 256 := by omega
  clear hr hw hl hn hc hm
  go_enter Try.func3, Try.ntmps3
  go_wp2_with fail
  refine (awake22 _).mono ?_
  rintro e wa ⟨rfl, ua⟩
  have UA := Lib.hid ua
  clear ua
  go_wp2_with fail
  refine (qpick_is nn ⟨b0, b1⟩ _).mono ?_
  rintro e wb ⟨pv, k, rfl, hp, hk, ub⟩
  have HP := Lib.hid hp
  have HK := Lib.hid hk
  have UB := Lib.hid (UA.out.trans ub)
  clear hp hk ub UA
  go_wp2_with fail
  refine (rmodel_is (2 + (r : Int)) rows cols _ HM.out).mono ?_
  rintro e wc ⟨rfl, uc⟩
  have UC := Lib.hid uc
  clear uc
  go_wp2_with fail
  have UD := Lib.hid (UC.out.alloc (.cells #[.int .i64 rows, .int .i64 cols] 28))
  refine (all_is (2 + (r : Int)) rows cols k pv _ HM.out (HP.out.up UD.out) HK.out).mono ?_
  rintro e we ⟨A1, c1, rfl, hs1, ue⟩
  obtain ⟨RL, hRL⟩ : ∃ RL, codesL.map (rep1 rows cols k) = RL := ⟨_, rfl⟩
  have hre := reps_body (rows := rows) (cols := cols) (k := k) (cs := codesL) (fun x hx => hx)
  have hhd := heads_body rows cols k codesL
  have hh1 := hit_area rows cols k
  have hh2 := hit_sets rows cols k
  rw [hRL] at hre hhd hh1 hh2
  obtain ⟨ar, ac⟩ := area_rows rows cols k
  have sk := sets_num rows cols k
  obtain ⟨LA, hLA⟩ : ∃ LA, bodyL rows cols k codesL = LA := ⟨_, rfl⟩
  rw [hLA] at hs1 hre
  rw [hLA]
  obtain ⟨N1, hN1⟩ : ∃ N, LA.length = N := ⟨_, rfl⟩
  rw [hN1] at hs1
  rw [hN1]
  obtain ⟨kc, kf⟩ := ue.at_ wc.heap.size (by simp)
  have s0 : we.cell? ⟨wc.heap.size, 0, none⟩ = some (.int .i64 rows) := (kc 0).trans (by simp)
  have s1 : we.cell? ⟨wc.heap.size, 1, none⟩ = some (.int .i64 cols) := (kc 1).trans (by simp)
  have S0 := Lib.hid s0
  have S1 := Lib.hid s1
  have HS1 := Lib.hid hs1
  have HRE := Lib.hid hre
  have HHD := Lib.hid hhd
  have HH1 := Lib.hid hh1
  have HH2 := Lib.hid hh2
  have HAR := Lib.hid ar
  have HAC := Lib.hid ac
  have HSK := Lib.hid sk
  have UE := Lib.hid ((UB.out.trans UD.out).trans ue)
  have HPE := Lib.hid (HP.out.up (UD.out.trans ue))
  clear hRL hre hhd hh1 hh2 ar ac sk hLA hN1 kc kf s0 s1 hs1 ue UB UC UD HP
  go_wp2_with fail
  have hpar := parse_is HS1.out
  rw [HRE.out] at hpar
  refine hpar.mono ?_
  rintro e wf ⟨A3, c3, n3, rfl, hs3, uf⟩
  simp only at hs3
  rw [HHD.out] at hs3
  have HS3 := Lib.hid hs3
  have UF := Lib.hid uf
  clear hs3 uf hpar
  go_wp2_with fail
  have hsz := size_is (HS1.out.up UF.out)
  rw [HRE.out] at hsz
  refine hsz.mono ?_
  rintro e wg ⟨ug, h⟩
  simp only at h
  rw [HH1.out] at h
  rcases h with ⟨h, _⟩ | ⟨d, h, rfl, hb⟩
  · cases h
  injection h with h
  rw [← h, HAR.out, HAC.out]
  have UG := Lib.hid ug
  clear h hb ug hsz
  go_wp2_with fail
  have hnm := number_is (HS1.out.up (UF.out.trans UG.out))
  rw [HRE.out] at hnm
  refine hnm.mono ?_
  rintro e wh ⟨uh, h⟩
  simp only at h
  rw [HH2.out] at h
  rcases h with ⟨h, _⟩ | ⟨d2, h, rfl, hb⟩
  · cases h
  injection h with h
  rw [← h, HSK.out]
  have UH := Lib.hid ((UF.out.trans UG.out).trans uh)
  have HS3h := Lib.hid (HS3.out.up (UG.out.trans uh))
  clear h hb uh hnm
  have q0 := ((UH.out.at_ wc.heap.size (cell_lt S0.out)).1 0).trans S0.out
  have q1 := ((UH.out.at_ wc.heap.size (cell_lt S0.out)).1 1).trans S1.out
  have zq := cell_lt q0
  have Q0 := Lib.hid q0
  have Q1 := Lib.hid q1
  clear q0 q1
  go_wp2_with (first | (go_at_call 13; refine (rcodes_is _).mono ?_; rintro e wi ⟨A5, c5, rfl, ho5, hn5, hm5, ui⟩; have HO5 := Lib.hid (Sl.of_own ho5 hn5 hm5 (show 7 ≤ 65536 by omega) codes_bd); have UI := Lib.hid ui; have r0 := ((ui.at_ wc.heap.size zq).1 0).trans Q0.out; have r1 := ((ui.at_ wc.heap.size zq).1 1).trans Q1.out; have zi := cell_lt r0; clear ho5 ui) | (go_at_call 12; refine (same_yes (HS3h.out.up UI.out) HO5.out).mono ?_; rintro e w' ⟨rfl, rfl⟩) | fail)
  have UIE := Lib.hid (UE.out.trans (UH.out.trans UI.out))
  have HPI := Lib.hid (HPE.out.up (UH.out.trans UI.out))
  clear HS1 HS3 HS3h UF UG r0 r1
  refine (cut_sl2 (m := 20) (HR.out.up UIE.out) HW.out HNC.out HCM.out (by omega)).mono ?_
  rintro e wj ⟨A6, c6, rfl, hs6, hA6, uj⟩
  have HS6 := Lib.hid hs6
  have HA6 := Lib.hid hA6
  have UJ := Lib.hid uj
  clear hs6 hA6 uj
  obtain ⟨LC, hLC⟩ : ∃ LC, l.take 20 = LC := ⟨_, rfl⟩
  rw [hLC] at HS6
  rw [hLC]
  clear hLC
  go_wp2_with fail
  refine (qlist_is (2 + (r : Int)) rows cols k pv _ HS6.out HA6.out HM.out (HPI.out.up UJ.out) HK.out).mono ?_
  rintro e wk ⟨A7, c7, rfl, hs7, uk⟩
  obtain ⟨RF, x, rest, t, f1, f2, f3, f4⟩ := few_facts rows cols k (codesL.filter (inL LC)) (fun y hy => (List.mem_filter.1 hy).1)
  obtain ⟨LF, hLF⟩ : ∃ LF, someL rows cols k (codesL.filter (inL LC)) = LF := ⟨_, rfl⟩
  rw [hLF] at hs7 f1 f4
  rw [hLF]
  obtain ⟨N7, hN7⟩ : ∃ N, LF.length = N := ⟨_, rfl⟩
  rw [hN7] at hs7
  rw [hN7]
  have HS7 := Lib.hid hs7
  have F1 := Lib.hid f1
  have F2 := Lib.hid f2
  have F4 := Lib.hid f4
  have UK := Lib.hid ((UIE.out.trans UJ.out).trans uk)
  clear hs7 f1 f2 f4 hLF hN7 uk UIE UJ UH UI UE HS6 HA6 HPI HPE
  go_wp2_with fail
  have hpar := parse_is HS7.out
  rw [F1.out] at hpar
  refine hpar.mono ?_
  rintro e wl ⟨A8, c8, n8, rfl, hs8, ul⟩
  simp only at hs8
  rw [F2.out] at hs8
  have hlen8 := hs8.len
  simp at hlen8
  obtain ⟨g8, o8, rfl, hg8⟩ := hs8.form (by omega)
  have hx0 := hs8.cell (i := 0) (by omega)
  rw [Nat.add_zero] at hx0
  have hx1 : wl.cell? ⟨g8, o8, none⟩ = some (.int .u8 x) := hx0
  have hn8 : (1 : Int) ≤ (n8 : Int) := by omega
  have hn80 : (0 : Int) < (n8 : Int) := by omega
  have HS7l := Lib.hid (HS7.out.up ul)
  have UL := Lib.hid (UK.out.trans ul)
  have ett : (t == t) = true := by cases t <;> rfl
  clear hs8 hx0 ul hpar hlen8 HS7
  go_wp2_with fail
  refine wp_region_mix (NS := [(112, RSl none5)]) [112] rfl (by kernel_rfl) (by kernel_rfl) (by simp) (by intro p hp; simp only [List.mem_cons, List.mem_nil_iff, or_false] at hp; rcases hp with rfl; all_goals (first | exact rsl_up _ | exact rptr_up _ | exact rms_up _ | exact spanAt_up _ _ _ _ _ | exact rcs_up _ | exact rfb_up _ _ | exact rbx_up _ | exact rop_up _ _ _ _ _ _ _ _ | exact rn_up _)) ?_
  repeat (first
    | (refine mix_skip rfl rfl ?_; simp only [Act.put, List.setIfInBounds_toArray, List.set_cons_succ, List.set_cons_zero])
    | (refine mix_q rfl rfl rfl (by kernel_rfl) rfl rfl rfl ?_
       apply Exists.intro
       refine ⟨fun Wm => ?_, ?_⟩
       · simp only [fin]
         repeat (rintro (vm : Value) hvm; first | (obtain ⟨gm, om, rfl, hgm, hcm⟩ := hvm) | (obtain ⟨gm, om, cm, rfl, h2m, hxm, hgm, hcm, hdm⟩ := rsl_two hvm) | (obtain ⟨Am, nm, cm, rfl, hnm, hlm, hmm, hrm⟩ := hvm; (try simp only [List.length_cons, List.length_nil, Nat.zero_add, Nat.reduceAdd] at hnm); subst hnm) | (have hvs := hvm; obtain ⟨bm1, bm2, bm3, rfl, hbl, hbz, hbc⟩ := hvm) | (obtain ⟨gm, rfl, hbm, hlm⟩ := hvm))
         intro K hK
         go_wp2_with ((go_at_call 12; refine (same_rd (HS7l.out.up (up_upOf _ _)).rd hrm HS7l.out.bytes none5_bl F4.out).mono ?_; rintro e w' ⟨rfl, rfl⟩))
         refine hK _ _ ?_ ?_ ?_
         · (repeat (first | with_reducible exact Up.refl _ | with_reducible refine Up.alloc ?_ _ | with_reducible refine Up.drew ?_ | with_reducible refine Up.drewN ?_ _ | with_reducible refine Up.setCell ?_ (by (try simp) <;> omega) _ | with_reducible assumption | with_reducible refine Up.trans ?_ (by assumption)))
         · rfl
         · exact tmps_at rfl
       simp only [Act.put, List.setIfInBounds_toArray, List.set_cons_succ, List.set_cons_zero])
    | (refine mix_n rfl rfl rfl (by kernel_rfl) rfl rfl rfl ?_ ?_
       · intro Wm
         simp only [fin]
         repeat (rintro (vm : Value) hvm; first | (obtain ⟨gm, om, rfl, hgm, hcm⟩ := hvm) | (obtain ⟨gm, om, cm, rfl, h2m, hxm, hgm, hcm, hdm⟩ := rsl_two hvm) | (obtain ⟨Am, nm, cm, rfl, hnm, hlm, hmm, hrm⟩ := hvm; (try simp only [List.length_cons, List.length_nil, Nat.zero_add, Nat.reduceAdd] at hnm); subst hnm) | (have hvs := hvm; obtain ⟨bm1, bm2, bm3, rfl, hbl, hbz, hbc⟩ := hvm) | (obtain ⟨gm, rfl, hbm, hlm⟩ := hvm))
         intro K hK
         go_wp2_with ((go_at_call 12; refine (same_rd (HS7l.out.up (up_upOf _ _)).rd hrm HS7l.out.bytes none5_bl F4.out).mono ?_; rintro e w' ⟨rfl, rfl⟩))
         apply hK
         · (repeat (first | with_reducible exact Up.refl _ | with_reducible refine Up.alloc ?_ _ | with_reducible refine Up.drew ?_ | with_reducible refine Up.drewN ?_ _ | with_reducible refine Up.setCell ?_ (by (try simp) <;> omega) _ | with_reducible assumption | with_reducible refine Up.trans ?_ (by assumption)))
         · rfl
         · exact tmps_at rfl
         · first | exact rsl_lit _ _ _ _ _ _ rfl rfl (by simp [maxLen]) rfl | exact ⟨_, _, rfl, hgm, hcm⟩ | exact ⟨_, _, rfl, hgm, hdm⟩ | exact rn_take hgm hcm (by omega) | assumption | exact rbx_new _ _ (Nat.le_trans (by simp) (up_upOf _ _).size)
       simp only [Act.put, List.setIfInBounds_toArray, List.set_cons_succ, List.set_cons_zero]))
  refine mix_nil ?_
  intro wm hb_wm
  simp only [fin]
  intro vm_wm_0 hvm_wm_0
  simp only [Act.put, List.setIfInBounds_toArray, List.set_cons_succ, List.set_cons_zero]
  have hu_wm : Up wl wm := by (repeat (first | with_reducible exact Up.refl _ | with_reducible refine Up.alloc ?_ _ | with_reducible refine Up.drew ?_ | with_reducible refine Up.drewN ?_ _ | with_reducible refine Up.setCell ?_ (by (try simp) <;> omega) _ | with_reducible assumption | with_reducible refine Up.trans ?_ (by assumption)))
  have hz_wm := Up.size hb_wm
  try simp at hz_wm
  obtain ⟨bc_wm_0, bf_wm_0⟩ := hu_wm.at_ (g8) (by omega)
  have zb_wm_0 : g8 < wm.heap.size := by omega
  go_wp2_with fail
  go_ret
  exact ⟨by first | rfl | simp, UL.out.trans hb_wm⟩
end Go.Proofs.Ytfknakcjhlonoaa
