/-
  The walk of CursorTabs: whatever the model, the acts and the numbers, it returns true. No condition but where the acts lie.
-/
import Derived.Test.YtjokcfenncogkaaCur2
import Derived.Test.YtjokcfenncogkaaAw15
import Derived.Test.YtjokcfenncogkaaTabsAll
import Derived.Test.YtjokcfenncogkaaRTabs
import Derived.Test.YtjokcfenncogkaaEqT
import Derived.Test.YtjokcfenncogkaaMix
namespace Go.Proofs.Ytjokcfenncogkaa
open Go.RowKit
set_option linter.unusedVariables false
set_option linter.unusedSimpArgs false

theorem idx_at {T : List Int} (h : T.Pairwise (· < ·)) {i : Nat} (hi : i < T.length) : idxVal T (T.getD i 0) = (i : Int) := by
  have hp : T.take i ++ [T.getD i 0] <+: T := by
    rw [List.getD, List.getElem?_eq_getElem hi]
    show T.take i ++ [T[i]] <+: T
    rw [← List.take_succ_eq_append_getElem hi]; exact List.take_prefix _ _
  have := idx_pre hp fun y hy => by
    obtain ⟨t, ht, rfl⟩ := List.getElem_of_mem hy
    have ht' : t < i := by rw [List.length_take] at ht; omega
    have h1 := sorted_at h ht' hi
    rw [List.getD, List.getElem?_eq_getElem (by omega), Option.getD_some] at h1
    rw [List.getElem_take]
    omega
  rw [this]
  simp; omega
theorem index_own {A : Option Addr} {c B : Nat} {L : List Int} {x : Int} {w : World} (h : OwnI B w A L.length c L) (hn : L.length ≤ 65536) :
    Calls Try.prog 60 #[.slice A L.length c, .int .i64 x] w fun e w' => e = .returned (.int .i64 (idxVal L x)) ∧ Up w w' := index_i A L.length c L x w h.reads rfl hn
theorem tmod_nn (a b : Int) (h : 0 ≤ a) : a.tmod b = a % b := Int.tmod_eq_emod_of_nonneg h
/-- a number round a list -/
theorem round_is (n : Int) {len : Nat} (h : 0 < len) : ∃ i : Nat, i < len ∧ (n.tmod (len : Int) + (len : Int)).tmod (len : Int) = (i : Int) ∧ -(len : Int) < n.tmod (len : Int) ∧ n.tmod (len : Int) < (len : Int) := by
  have hb := tmod_bd n (len : Int) (by omega)
  have h1 : 0 ≤ n.tmod (len : Int) + (len : Int) := by omega
  refine ⟨((n.tmod (len : Int) + (len : Int)) % (len : Int)).toNat, ?_, ?_, by omega, by omega⟩
  · have := Int.emod_nonneg (n.tmod (len : Int) + (len : Int)) (show (len : Int) ≠ 0 by omega)
    have := Int.emod_lt_of_pos (n.tmod (len : Int) + (len : Int)) (show 0 < (len : Int) by omega)
    omega
  · rw [tmod_nn _ _ h1]
    have := Int.emod_nonneg (n.tmod (len : Int) + (len : Int)) (show (len : Int) ≠ 0 by omega)
    omega
theorem back_of_next {len t : Nat} (h : t < len) : ∃ t', t' < len ∧ (t' + 1) % len = t := by
  rcases Nat.eq_zero_or_pos t with rfl | h0
  · exact ⟨len - 1, by omega, by rw [show len - 1 + 1 = len by omega, Nat.mod_self]⟩
  · exact ⟨t - 1, by omega, by rw [show t - 1 + 1 = t by omega, Nat.mod_eq_of_lt h]⟩
set_option maxRecDepth 100000 in
set_option maxHeartbeats 12800000 in
theorem law_tabs15 (m : Int) (A : Option Addr) (n cap : Nat) (l : List ActR) (fr st : Int) (w : World) (m0 : 0 ≤ m) (m1 : m ≤ 255) (hl : l.length = n) (hn : n ≤ cap) (hc : cap ≤ maxLen) (hok : ∀ x ∈ l, x.Ok w w.heap.size) (hr : Reads w w.heap.size 11 A n (l.flatMap ActR.enc))
    (n0 : -9223372036854775808 ≤ fr) (n1 : fr ≤ 9223372036854775807) (s0 : 0 ≤ st) (s1 : st ≤ 255) :
    Calls Try.prog 8 #[.int .u8 m, .slice A n cap, .int .i64 fr, .int .u8 st] w fun e w' => e = .returned (.bool true) ∧ Up w w' := by
  have HWF := Lib.hid (show ∀ a ∈ plains l, a.Wf from fun a ha => by simp only [plains, List.mem_map] at ha; obtain ⟨x, hx, rfl⟩ := ha; exact (hok x hx).wf)
  have HOK := Lib.hid (layS_ok m0 HWF.out)
  have HLY := Lib.hid (fun W (hu : Up w W) => lay15_is (B := w.heap.size) (w := W) m0 m1 hu.size (hr.below hu) hl hn hc (fun x hx => (hok x hx).keep hu))
  clear hok hr hl HWF
  go_enter Try.func8, Try.ntmps8
  go_wp2_with fail
  refine (awake15 _).mono ?_
  rintro e w0 ⟨rfl, hu0⟩
  have HU0 := Lib.hid hu0
  clear hu0
  go_wp2_with fail
  refine (HLY.out _ HU0.out).mono ?_
  rintro e w1 ⟨p, g, q, h, rfl, hs, hr, hne, hu1⟩
  have HZ0 := HU0.out.size
  obtain ⟨X, hX⟩ : ∃ X, layS m (plains l) = X := ⟨_, rfl⟩
  rw [hX] at hs hr HOK
  have HU1 := Lib.hid (HU0.out.trans hu1)
  have HS1 := Lib.hid hs
  have HR1 := Lib.hid hr
  have HNE := Lib.hid (show w.heap.size ≤ p ∧ w.heap.size ≤ g ∧ w.heap.size ≤ q ∧ w.heap.size ≤ h ∧ p ≠ q ∧ p ≠ h ∧ g ≠ q ∧ g ≠ h ∧ p < w1.heap.size ∧ g < w1.heap.size from by
    have h1 := hs.lt
    have h2 := hs.cells.2.1
    omega)
  clear hs hr hu1 hX HLY hne
  go_wp2_with fail
  refine (tabs_val _ _).mono ?_
  rintro e w2 ⟨b, rfl, hb, hz, hcb, hfb, hu2⟩
  have HCO := Lib.hid (collect_tabs (HS1.out.up hu2) HOK.out hcb)
  have HU2 := Lib.hid hu2
  clear hb hz hcb hfb hu2
  have HT1 := Lib.hid (fun i (hi : i < X.tabs.length) => find_next HOK.out hi)
  have HT2 := Lib.hid (fun i (hi : i < X.tabs.length) => find_prev HOK.out hi)
  have HTB := Lib.hid (fun i (hi : i < X.tabs.length) => tabs_facts HOK.out hi)
  have HTE := Lib.hid (fun (h : X.tabs = []) n s => find_empty HOK.out h n s)
  have hTL : X.tabs.length ≤ 3564 := Nat.le_trans tabs_len HOK.out.small
  have HSO := Lib.hid (show X.tabs.Pairwise (· < ·) from those_sorted _ _)
  have HRT := Lib.hid (fun W (h' : RAt W q h X) => rtabs_is h' HOK.out)
  have HIX := Lib.hid (fun W (h' : SAt W p g X) => cindex_is h' HOK.out)
  have HTS := Lib.hid (fun W (h' : SAt W p g X) most K (h1 : 0 < most) (h2 : most ≤ 1000) (hK : X.tabs.take most = K) => ltabs_is h' HOK.out h1 h2 hK)
  have HIG := Lib.hid (fun W v (h' : SAt W p g (X.goTo v)) (ok : (X.goTo v).Ok) => (show Calls _ _ _ W (fun e w' => e = .returned (.int .i64 (idxVal X.tabs v)) ∧ Up W w') from cindex_is h' ok))
  obtain ⟨T, hT⟩ : ∃ T, X.tabs = T := ⟨_, rfl⟩
  rw [hT] at HT1 HT2 HTB HTE hTL HSO HRT HIX HTS HIG HCO
  clear hT
  go_wp2_with fail
  refine HCO.out.mono ?_
  rintro e w3 ⟨A1, c1, rfl, hown1, hu3⟩
  have HO1 := Lib.hid hown1
  have HU3 := Lib.hid (HU2.out.trans hu3)
  have hle1 := hown1.le
  have hc1 : (c1 : Int) ≤ 9223372036854775807 := by have := hown1.mx; simp [maxLen] at this; omega
  have HA1 := Lib.hid (show ∀ k, A1 = some k → k.block ≠ p ∧ k.block ≠ g from fun k hk => by
    have h1 := hown1.at_ k hk
    have h2 := HNE.out
    have h3 := HU2.out.size
    omega)
  clear hown1 hu3 HCO
  go_wp2_with fail
  refine (HRT.out _ (HR1.out.up HU3.out)).mono ?_
  rintro e w4 ⟨A2, c2, rfl, hown2, hu4⟩
  have HO2 := Lib.hid hown2
  have HU4 := Lib.hid (HU3.out.trans hu4)
  have HO1b := Lib.hid (HO1.out.up hu4)
  have hle2 := hown2.le
  have hc2 : (c2 : Int) ≤ 9223372036854775807 := by have := hown2.mx; simp [maxLen] at this; omega
  have HS4 := Lib.hid (HS1.out.up HU4.out)
  have HR4 := Lib.hid (HR1.out.up HU4.out)
  have k5 := HR4.out.h5
  have zq4 := HR4.out.lt
  obtain ⟨cu, hcu⟩ : ∃ cu, X.cur = cu := ⟨_, rfl⟩
  rw [hcu] at k5 HIX
  have HCU := Lib.hid hcu
  obtain ⟨iv, hiv⟩ : ∃ iv, idxVal T cu = iv := ⟨_, rfl⟩
  rw [hiv] at HIX
  have HIV := Lib.hid hiv
  obtain ⟨len, hlen⟩ : ∃ len, T.length = len := ⟨_, rfl⟩
  have HLN := Lib.hid hlen
  have HEQ := Lib.hid (fun W (hu : Up w4 W) => equal_own (HO1b.out.up hu) (HO2.out.up hu) (by omega))
  have HII := Lib.hid (fun W (hu : Up w4 W) => index_own (x := cu) (HO2.out.up hu) (by omega))
  rw [hiv] at HII
  rw [hlen] at HT1 HT2 HTB hTL HEQ HII hle1 hle2 ⊢
  clear hown2 hu4 hcu hiv hlen
  rcases Nat.eq_zero_or_pos len with h0 | h0
  · subst h0
    have HTN := Lib.hid (show T = [] from List.eq_nil_of_length_eq_zero HLN.out)
    have HTAB := Lib.hid (fun W (h' : SAt W p g X) => ctab_is h' HOK.out)
    have e0 : tabN X X.cur 1 = 0 := by unfold tabN; rw [HTE.out HTN.out]; decide
    rw [e0] at HTAB
    have okz := goTo_ok HOK.out (n := 0) (by omega) (Spc.pos HOK.out)
    have HIZ := Lib.hid (fun W (h' : SAt W p g (X.goTo 0)) => HIG.out W 0 h' okz)
    have ez : idxVal T 0 = -1 := by rw [HTN.out]; rfl
    rw [ez] at HIZ
    have HCZ := Lib.hid (fun W (h' : SAt W p g (X.goTo 0)) => scur_is h')
    have ec : (X.goTo 0).cur = 0 := rfl
    rw [ec] at HCZ
    clear e0 okz ez ec
    go_wp2_with fail
    refine wp_region_mix (NS := []) [] rfl (by kernel_rfl) (by kernel_rfl) (by simp) (by simp) ?_
    repeat (first
      | (refine mix_skip rfl rfl ?_; simp only [Act.put, List.setIfInBounds_toArray, List.set_cons_succ, List.set_cons_zero])
      | (refine mix_q rfl rfl rfl (by kernel_rfl) rfl rfl rfl ?_
         apply Exists.intro
         refine ⟨fun Wm => ?_, ?_⟩
         · simp only [fin]
           skip
           intro K hK
           go_wp2_with ((first | (go_at_call 58; (with_reducible refine (HEQ.out _ (up_upOf _ _)).mono ?_); rintro e w' ⟨rfl, hux⟩) | (go_at_call 59; (with_reducible refine (HIX.out _ (HS4.out.up (up_upOf _ _))).mono ?_); rintro e w' ⟨rfl, hux⟩) | (go_at_call 60; (with_reducible refine (HII.out _ (up_upOf _ _)).mono ?_); rintro e w' ⟨rfl, hux⟩)))
           refine hK _ _ ?_ ?_ ?_
           · (repeat (first | with_reducible exact Up.refl _ | with_reducible refine Up.alloc ?_ _ | with_reducible refine Up.drew ?_ | with_reducible refine Up.drewN ?_ _ | with_reducible refine Up.setCell ?_ (by (try simp) <;> omega) _ | with_reducible assumption | with_reducible refine Up.trans ?_ (by assumption)))
           · rfl
           · exact tmps_at rfl
         simp only [Act.put, List.setIfInBounds_toArray, List.set_cons_succ, List.set_cons_zero]))
    refine mix_nil ?_
    intro w5 hb_w5
    simp only [fin]
    have hu_w5 : Up w4 w5 := by (repeat (first | with_reducible exact Up.refl _ | with_reducible refine Up.alloc ?_ _ | with_reducible refine Up.drew ?_ | with_reducible refine Up.drewN ?_ _ | with_reducible refine Up.setCell ?_ (by (try simp) <;> omega) _ | with_reducible assumption | with_reducible refine Up.trans ?_ (by assumption)))
    have hz_w5 := Up.size hb_w5
    try simp at hz_w5
    obtain ⟨bc_w5_0, bf_w5_0⟩ := hu_w5.at_ (q) (by omega)
    have zb_w5_0 : q < w5.heap.size := by omega
    go_wp2_with fail
    refine (HTAB.out _ (HS4.out.up hb_w5)).mono ?_
    rintro e w6 ⟨rfl, hs6, hk6⟩
    have HS6 := Lib.hid hs6
    have HU6 := Lib.hid ((HU1.out.trans (HU4.out.trans hb_w5)).keep hk6 (fun i hi => by have h9 := HNE.out; rcases hi with hi | hi <;> omega))
    clear hs6 hk6
    go_wp2_with fail
    refine (HCZ.out _ HS6.out).mono ?_
    rintro e w7 ⟨rfl, rfl⟩
    go_wp2_with fail
    refine (HIZ.out _ HS6.out).mono ?_
    rintro e w8 ⟨rfl, hu8⟩
    have HU8 := Lib.hid (HU6.out.trans hu8)
    clear hu8
    go_wp2_with fail
    go_ret
    exact ⟨rfl, HU8.out⟩
  · have hne0 : ((len : Int) == 0) = false := by simp; omega
    obtain ⟨kk, hk⟩ : ∃ kk : Nat, 1 + st % 5 = (kk : Int) := ⟨(1 + st % 5).toNat, by omega⟩
    have hkk : 1 ≤ kk ∧ kk ≤ 5 := by omega
    obtain ⟨hkk1, hkk2⟩ := hkk
    have HK := Lib.hid hk
    clear hk
    go_wp2_with fail
    refine wp_region_mix (NS := []) [] rfl (by kernel_rfl) (by kernel_rfl) (by simp) (by simp) ?_
    repeat (first
      | (refine mix_skip rfl rfl ?_; simp only [Act.put, List.setIfInBounds_toArray, List.set_cons_succ, List.set_cons_zero])
      | (refine mix_q rfl rfl rfl (by kernel_rfl) rfl rfl rfl ?_
         apply Exists.intro
         refine ⟨fun Wm => ?_, ?_⟩
         · simp only [fin]
           skip
           intro K hK
           go_wp2_with ((first | (go_at_call 58; (with_reducible refine (HEQ.out _ (up_upOf _ _)).mono ?_); rintro e w' ⟨rfl, hux⟩) | (go_at_call 59; (with_reducible refine (HIX.out _ (HS4.out.up (up_upOf _ _))).mono ?_); rintro e w' ⟨rfl, hux⟩) | (go_at_call 60; (with_reducible refine (HII.out _ (up_upOf _ _)).mono ?_); rintro e w' ⟨rfl, hux⟩)))
           refine hK _ _ ?_ ?_ ?_
           · (repeat (first | with_reducible exact Up.refl _ | with_reducible refine Up.alloc ?_ _ | with_reducible refine Up.drew ?_ | with_reducible refine Up.drewN ?_ _ | with_reducible refine Up.setCell ?_ (by (try simp) <;> omega) _ | with_reducible assumption | with_reducible refine Up.trans ?_ (by assumption)))
           · rfl
           · exact tmps_at rfl
         simp only [Act.put, List.setIfInBounds_toArray, List.set_cons_succ, List.set_cons_zero]))
    refine mix_nil ?_
    intro w5 hb_w5
    simp only [fin]
    have hu_w5 : Up w4 w5 := by (repeat (first | with_reducible exact Up.refl _ | with_reducible refine Up.alloc ?_ _ | with_reducible refine Up.drew ?_ | with_reducible refine Up.drewN ?_ _ | with_reducible refine Up.setCell ?_ (by (try simp) <;> omega) _ | with_reducible assumption | with_reducible refine Up.trans ?_ (by assumption)))
    have hz_w5 := Up.size hb_w5
    try simp at hz_w5
    obtain ⟨bc_w5_0, bf_w5_0⟩ := hu_w5.at_ (q) (by omega)
    have zb_w5_0 : q < w5.heap.size := by omega
    go_wp2_with fail
    have HS5 := Lib.hid (HS4.out.up hb_w5)
    have HU5 := Lib.hid (HU1.out.trans (HU4.out.trans hb_w5))
    have HO1c := Lib.hid (HO1b.out.up hb_w5)
    obtain ⟨K, hKK⟩ : ∃ K, T.take kk = K := ⟨_, rfl⟩
    have HTK := Lib.hid (fun W (h' : SAt W p g X) => HTS.out W h' kk K (by omega) (by omega) hKK)
    have hkl : K.length = min kk len := by rw [← hKK, List.length_take, HLN.out]
    have hl26 : K.length ≤ 65536 := by omega
    have HRX : Hid (∀ k2, k2 = K.length → RMs K (.slice A2 k2 c2) w5) := Lib.hid fun k2 hk2 => by
      subst hk2
      refine ⟨A2, _, c2, rfl, rfl, trivial, trivial, ?_⟩
      have h1 := ((HO2.out.up hb_w5).reads).take (k := K.length) (by rw [HLN.out]; omega)
      have h2 : (ns T).take (K.length * 1) = ns K := by
        unfold ns
        rw [Nat.mul_one, ← List.map_take, hkl, ← hKK]
        rcases Nat.le_total kk len with h3 | h3
        · rw [Nat.min_eq_left h3]
        · rw [Nat.min_eq_right h3, List.take_of_length_le (by rw [HLN.out]; omega), List.take_of_length_le (by rw [HLN.out]; omega)]
      rw [h2] at h1
      exact h1
    clear hKK
    have HKL := Lib.hid hkl
    clear hkl
    obtain ⟨i, hi, hmod, htl, htu⟩ := round_is fr h0
    obtain ⟨v, hv⟩ : ∃ v, T.getD i 0 = v := ⟨_, rfl⟩
    have HVE := Lib.hid hv
    obtain ⟨bt, ot, rfl, hbt⟩ := HO1c.out.reads.form (by rw [HLN.out]; omega)
    have HROW := Lib.hid (show ∀ t, t < len → w5.cell? ⟨bt, ot + t, none⟩ = some (.int .i64 (T.getD t 0)) from fun t ht => by
      obtain ⟨_, u, hu, hcu⟩ := HO1c.out.reads.at_ (j := t) (by rw [HLN.out]; omega)
      rw [ns_at13 T t (by rw [HLN.out]; omega)] at hu
      rw [hcu]; exact hu.symm)
    obtain ⟨hbp, hbg⟩ := HA1.out _ rfl
    simp only at hbp hbg
    have hxi := HROW.out i hi
    rw [hv] at hxi
    have hil : (i : Int) < (len : Int) := by omega
    have hvb := HTB.out i hi
    rw [hv] at hvb
    have HPL := Lib.hid (fun W (h' : SAt W p g X) => (splace_is v h' HOK.out))
    rw [place_goTo HOK.out hvb.1 hvb.2.1] at HPL
    clear hv hvb
    by_cases cm : kk < len
    · have HRL := Lib.hid (HRX.out kk (by have := HKL.out; omega))
      try simp only [HK.out]
      refine wp_region_mix (NS := [(63, RMs K)]) [63] rfl (by kernel_rfl) (by kernel_rfl) (by simp) (by intro p hp; simp only [List.mem_cons, List.mem_nil_iff, or_false] at hp; rcases hp with rfl; all_goals (first | exact rsl_up _ | exact rptr_up _ | exact rms_up _ | exact spanAt_up _ _ _ _ _ | exact rcs_up _ | exact rfb_up _ _)) ?_
      repeat (first
        | (refine mix_skip rfl rfl ?_; simp only [Act.put, List.setIfInBounds_toArray, List.set_cons_succ, List.set_cons_zero])
        | (refine mix_q rfl rfl rfl (by kernel_rfl) rfl rfl rfl ?_
           apply Exists.intro
           refine ⟨fun Wm => ?_, ?_⟩
           · simp only [fin]
             repeat (rintro (vm : Value) hvm; first | (obtain ⟨gm, om, rfl, hgm, hcm⟩ := hvm) | (obtain ⟨gm, om, cm, rfl, h2m, hxm, hgm, hcm, hdm⟩ := rsl_two hvm) | (obtain ⟨Am, nm, cm, rfl, hnm, hlm, hmm, hrm⟩ := hvm; (try simp only [List.length_cons, List.length_nil, Nat.zero_add, Nat.reduceAdd] at hnm); subst hnm) | (have hvs := hvm; obtain ⟨bm1, bm2, bm3, rfl, hbl, hbz, hbc⟩ := hvm))
             intro K hK
             go_wp2_with ((first | (go_at_call 62; (with_reducible refine (HTK.out _ (HS5.out.up (up_upOf _ _))).mono ?_); rintro e w' ⟨Ax, cx, rfl, hRx, hux⟩; have hRy := OwnI.told hRx) | (go_at_call 58; (with_reducible refine (eq_rms hrm (rms_up _ _ _ _ HRL.out (up_upOf _ _)) hl26).mono ?_); rintro e w' ⟨rfl, hux⟩)))
             refine hK _ _ ?_ ?_ ?_
             · (repeat (first | with_reducible exact Up.refl _ | with_reducible refine Up.alloc ?_ _ | with_reducible refine Up.drew ?_ | with_reducible refine Up.drewN ?_ _ | with_reducible refine Up.setCell ?_ (by (try simp) <;> omega) _ | with_reducible assumption | with_reducible refine Up.trans ?_ (by assumption)))
             · rfl
             · exact tmps_at rfl
           simp only [Act.put, List.setIfInBounds_toArray, List.set_cons_succ, List.set_cons_zero])
        | (refine mix_n rfl rfl rfl (by kernel_rfl) rfl rfl rfl ?_ ?_
           · intro Wm
             simp only [fin]
             repeat (rintro (vm : Value) hvm; first | (obtain ⟨gm, om, rfl, hgm, hcm⟩ := hvm) | (obtain ⟨gm, om, cm, rfl, h2m, hxm, hgm, hcm, hdm⟩ := rsl_two hvm) | (obtain ⟨Am, nm, cm, rfl, hnm, hlm, hmm, hrm⟩ := hvm; (try simp only [List.length_cons, List.length_nil, Nat.zero_add, Nat.reduceAdd] at hnm); subst hnm) | (have hvs := hvm; obtain ⟨bm1, bm2, bm3, rfl, hbl, hbz, hbc⟩ := hvm))
             intro K hK
             go_wp2_with ((first | (go_at_call 62; (with_reducible refine (HTK.out _ (HS5.out.up (up_upOf _ _))).mono ?_); rintro e w' ⟨Ax, cx, rfl, hRx, hux⟩; have hRy := OwnI.told hRx) | (go_at_call 58; (with_reducible refine (eq_rms hrm (rms_up _ _ _ _ HRL.out (up_upOf _ _)) hl26).mono ?_); rintro e w' ⟨rfl, hux⟩)))
             apply hK
             · (repeat (first | with_reducible exact Up.refl _ | with_reducible refine Up.alloc ?_ _ | with_reducible refine Up.drew ?_ | with_reducible refine Up.drewN ?_ _ | with_reducible refine Up.setCell ?_ (by (try simp) <;> omega) _ | with_reducible assumption | with_reducible refine Up.trans ?_ (by assumption)))
             · rfl
             · exact tmps_at rfl
             · first | exact rsl_lit _ _ _ _ _ _ rfl rfl (by simp [maxLen]) rfl | exact ⟨_, _, rfl, hgm, hcm⟩ | exact ⟨_, _, rfl, hgm, hdm⟩ | assumption
           simp only [Act.put, List.setIfInBounds_toArray, List.set_cons_succ, List.set_cons_zero]))
      refine mix_nil ?_
      intro w6 hb_w6
      simp only [fin]
      intro vm_w6_0 hvm_w6_0
      simp only [Act.put, List.setIfInBounds_toArray, List.set_cons_succ, List.set_cons_zero]
      have hu_w6 : Up w5 w6 := by (repeat (first | with_reducible exact Up.refl _ | with_reducible refine Up.alloc ?_ _ | with_reducible refine Up.drew ?_ | with_reducible refine Up.drewN ?_ _ | with_reducible refine Up.setCell ?_ (by (try simp) <;> omega) _ | with_reducible assumption | with_reducible refine Up.trans ?_ (by assumption)))
      have hz_w6 := Up.size hb_w6
      try simp at hz_w6
      obtain ⟨bc_w6_0, bf_w6_0⟩ := hu_w6.at_ (q) (by omega)
      obtain ⟨bc_w6_1, bf_w6_1⟩ := hu_w6.at_ (bt) (by omega)
      have zb_w6_0 : q < w6.heap.size := by omega
      have zb_w6_1 : bt < w6.heap.size := by omega
      go_wp2_with fail
      try simp only [hmod]
      try go_wp2_with fail
      refine (HPL.out _ (HS5.out.up hb_w6)).mono ?_
      rintro e w7 ⟨rfl, hs7, hk7⟩
      have HS7 := Lib.hid hs7
      have HK7 := Lib.hid hk7
      have zbt7 : bt < w7.heap.size := by have := hk7.size; omega
      have HROW7 := Lib.hid (show ∀ t, t < len → w7.cell? ⟨bt, ot + t, none⟩ = some (.int .i64 (T.getD t 0)) from fun t ht => ((hk7.at_ bt (by omega) (fun e => by rcases e with e | e <;> omega)).1 _).trans (((hb_w6.at_ bt (by omega)).1 _).trans (HROW.out t ht)))
      have HU7 := Lib.hid ((HU5.out.trans hb_w6).keep hk7 (fun i hi => by have h9 := HNE.out; rcases hi with hi | hi <;> omega))
      have HBT := Lib.hid (show bt ≠ p ∧ bt ≠ g from ⟨hbp, hbg⟩)
      clear hs7 hk7 HROW hxi hmod htl htu
      go_wp2_with fail
      go_loopw [90] (fun ii wr => ∃ j : Nat, j ≤ len ∧ ii = .int .i64 (j : Int) ∧ SAt wr p g (X.goTo (T.getD ((i + j) % len) 0)) ∧ Keep (two p g) w7 wr) (fun ii _ => len - (intOf ii).toNat)
      case atStart => exact ⟨0, by omega, rfl, by rw [Nat.add_zero, Nat.mod_eq_of_lt hi, HVE.out]; exact HS7.out, Keep.refl _ _⟩
      case round =>
        obtain ⟨j, hj, rfl, hsj, hkj⟩ := hrel
        have HSJ := Lib.hid hsj
        have HKJ := Lib.hid hkj
        have zbj : bt < wr.heap.size := by have := hkj.size; omega
        clear hsj hkj
        by_cases hlt : j < len
        · obtain ⟨t, ht⟩ : ∃ t, (i + j) % len = t := ⟨_, rfl⟩
          have htl : t < len := by rw [← ht]; exact Nat.mod_lt _ h0
          obtain ⟨t2, ht2⟩ : ∃ t2, (t + 1) % len = t2 := ⟨_, rfl⟩
          have htl2 : t2 < len := by rw [← ht2]; exact Nat.mod_lt _ h0
          have hN2 : (i + (j + 1)) % len = t2 := by rw [← ht2, ← ht, Nat.mod_add_mod, Nat.add_assoc]
          have HN2 := Lib.hid hN2
          have hm2 : ((i : Int) + 1 + (j : Int)) % (len : Int) = (t2 : Int) := by
            rw [show (i : Int) + 1 + (j : Int) = ((i + (j + 1) : Nat) : Int) by omega, ← Int.natCast_emod, hN2]
          have hm3 : ((i : Int) + 1 + (j : Int)).tmod (len : Int) = (t2 : Int) := by rw [tmod_nn _ _ (by omega)]; exact hm2
          rw [ht] at HSJ
          have hF := HT1.out t htl
          rw [ht2] at hF
          have hb1 := HTB.out t htl
          have hb2 := HTB.out t2 htl2
          have HTAB := Lib.hid (fun W (h' : SAt W p g (X.goTo (T.getD t 0))) => ctab_is h' (goTo_ok HOK.out hb1.1 hb1.2.1))
          have eT : (X.goTo (T.getD t 0)).goTo (tabN (X.goTo (T.getD t 0)) (X.goTo (T.getD t 0)).cur 1) = X.goTo (T.getD t2 0) := by
            show X.goTo (max (X.find (T.getD t 0) 1) 0) = _
            rw [hF]; congr 1; omega
          rw [eT] at HTAB
          have HCU2 := Lib.hid (fun W (h' : SAt W p g (X.goTo (T.getD t2 0))) => scur_is h')
          have eC : (X.goTo (T.getD t2 0)).cur = T.getD t2 0 := rfl
          rw [eC] at HCU2
          have hx2 := ((HKJ.out.at_ bt zbt7 (fun e => by have h9 := HBT.out; rcases e with e | e <;> omega)).1 (ot + t2)).trans (HROW7.out t2 htl2)
          obtain ⟨v2, hv2⟩ : ∃ v2, T.getD t2 0 = v2 := ⟨_, rfl⟩
          have HV2 := Lib.hid hv2
          rw [hv2] at HTAB HCU2 hx2
          have hjn : (j : Int) < (len : Int) := by omega
          have htl3 : (t2 : Int) < (len : Int) := by omega
          clear ht ht2 hN2 hF hb1 hb2 eT eC hv2
          go_wp2_with fail
          refine (HTAB.out _ HSJ.out).mono ?_
          rintro e w8 ⟨rfl, hs8, hk8⟩
          have HS8 := Lib.hid hs8
          have HK8 := Lib.hid (HKJ.out.trans hk8)
          have hx8 := ((hk8.at_ bt zbj (fun e => by have h9 := HBT.out; rcases e with e | e <;> omega)).1 (ot + t2)).trans hx2
          have zb8 : bt < w8.heap.size := by have := hk8.size; omega
          clear hs8 hk8 hx2
          go_wp2_with fail
          refine wp_region_mix (NS := []) [] rfl (by kernel_rfl) (by kernel_rfl) (by simp) (by simp) ?_
          repeat (first
            | (refine mix_skip rfl rfl ?_; simp only [Act.put, List.setIfInBounds_toArray, List.set_cons_succ, List.set_cons_zero])
            | (refine mix_q rfl rfl rfl (by kernel_rfl) rfl rfl rfl ?_
               apply Exists.intro
               refine ⟨fun Wm => ?_, ?_⟩
               · simp only [fin]
                 skip
                 intro K hK
                 go_wp2_with ((go_at_call 33; (with_reducible refine (HCU2.out _ (HS8.out.up (up_upOf _ _))).mono ?_); rintro e w' ⟨rfl, rfl⟩))
                 refine hK _ _ ?_ ?_ ?_
                 · (repeat (first | with_reducible exact Up.refl _ | with_reducible refine Up.alloc ?_ _ | with_reducible refine Up.drew ?_ | with_reducible refine Up.drewN ?_ _ | with_reducible refine Up.setCell ?_ (by (try simp) <;> omega) _ | with_reducible assumption | with_reducible refine Up.trans ?_ (by assumption)))
                 · rfl
                 · exact tmps_at rfl
               simp only [Act.put, List.setIfInBounds_toArray, List.set_cons_succ, List.set_cons_zero]))
          refine mix_nil ?_
          intro w9 hb_w9
          simp only [fin]
          have hu_w9 : Up w8 w9 := by (repeat (first | with_reducible exact Up.refl _ | with_reducible refine Up.alloc ?_ _ | with_reducible refine Up.drew ?_ | with_reducible refine Up.drewN ?_ _ | with_reducible refine Up.setCell ?_ (by (try simp) <;> omega) _ | with_reducible assumption | with_reducible refine Up.trans ?_ (by assumption)))
          have hz_w9 := Up.size hb_w9
          try simp at hz_w9
          obtain ⟨bc_w9_0, bf_w9_0⟩ := hu_w9.at_ (bt) (by omega)
          have zb_w9_0 : bt < w9.heap.size := by omega
          go_wp2_with fail
          try go_wp2_with fail
          go_roundw
          case rel => exact ⟨j + 1, by omega, by go_num, by rw [HN2.out, HV2.out]; exact HS8.out.up hb_w9, HK8.out.up hb_w9⟩
          case measure => simp [intOf]; omega
        · obtain rfl : j = len := by omega
          have hmi : (i + j) % j = i := by rw [Nat.add_mod_right, Nat.mod_eq_of_lt hi]
          rw [hmi] at HSJ
          clear hmi
          generalize wr = wb at *
          go_wp2_with fail
          go_loopw [111] (fun ii wr => ∃ (k t : Nat), k ≤ j ∧ t < j ∧ (t + k) % j = i ∧ ii = .int .i64 (k : Int) ∧ SAt wr p g (X.goTo (T.getD t 0)) ∧ Keep (two p g) w7 wr) (fun ii _ => j - (intOf ii).toNat)
          case atStart => exact ⟨0, i, by omega, hi, by rw [Nat.add_zero, Nat.mod_eq_of_lt hi], rfl, HSJ.out, HKJ.out⟩
          case round =>
            obtain ⟨k, t, hk, htj, htk, rfl, hsk, hkk⟩ := hrel
            have HSK := Lib.hid hsk
            have HKK := Lib.hid hkk
            have HTK2 := Lib.hid htk
            have zbk : bt < wr.heap.size := by have := hkk.size; omega
            clear hsk hkk htk
            by_cases hlt2 : k < j
            · obtain ⟨t', ht', hte⟩ := back_of_next htj
              have hF := HT2.out t' ht'
              rw [hte] at hF
              have hb1 := HTB.out t htj
              have hb2 := HTB.out t' ht'
              have HTAB := Lib.hid (fun W (h' : SAt W p g (X.goTo (T.getD t 0))) => cback_is h' (goTo_ok HOK.out hb1.1 hb1.2.1))
              have eT : (X.goTo (T.getD t 0)).goTo (tabN (X.goTo (T.getD t 0)) (X.goTo (T.getD t 0)).cur (-1)) = X.goTo (T.getD t' 0) := by
                show X.goTo (max (X.find (T.getD t 0) (-1)) 0) = _
                rw [hF]; congr 1; omega
              rw [eT] at HTAB
              have HTE2 := Lib.hid (show (t' + (k + 1)) % j = i by rw [← HTK2.out, ← hte, Nat.mod_add_mod]; congr 1; omega)
              have hkj : (k : Int) < (j : Int) := by omega
              clear hF hb1 hb2 eT hte
              go_wp2_with fail
              refine (HTAB.out _ HSK.out).mono ?_
              rintro e w8 ⟨rfl, hs8, hk8⟩
              have HS8 := Lib.hid hs8
              have HK8 := Lib.hid (HKK.out.trans hk8)
              clear hs8 hk8
              go_wp2_with fail
              go_roundw
              case rel => exact ⟨k + 1, t', by omega, ht', HTE2.out, by go_num, HS8.out, HK8.out⟩
              case measure => simp [intOf]; omega
            · obtain rfl : k = j := by omega
              have hti : t = i := by
                have h9 := HTK2.out
                rw [Nat.add_mod_right, Nat.mod_eq_of_lt htj] at h9; exact h9
              subst hti
              rw [HVE.out] at HSK
              have hb1 := HTB.out t htj
              rw [HVE.out] at hb1
              have HIE := Lib.hid (fun W (h' : SAt W p g (X.goTo v)) => HIG.out W v h' (goTo_ok HOK.out hb1.1 hb1.2.1))
              have ei : idxVal T v = (t : Int) := by rw [← HVE.out]; exact idx_at HSO.out (by rw [HLN.out]; exact htj)
              rw [ei] at HIE
              have HCU2 := Lib.hid (fun W (h' : SAt W p g (X.goTo v)) => scur_is h')
              have eC : (X.goTo v).cur = v := rfl
              rw [eC] at HCU2
              have hx2 := ((HKK.out.at_ bt zbt7 (fun e => by have h9 := HBT.out; rcases e with e | e <;> omega)).1 (ot + t)).trans (HROW7.out t htj)
              rw [HVE.out] at hx2
              have HUW := Lib.hid (HU7.out.keep HKK.out (fun i hi => by have h9 := HNE.out; rcases hi with hi | hi <;> omega))
              clear hb1 ei eC
              go_wp2_with fail
              refine wp_region_mix (NS := []) [] rfl (by kernel_rfl) (by kernel_rfl) (by simp) (by simp) ?_
              repeat (first
                | (refine mix_skip rfl rfl ?_; simp only [Act.put, List.setIfInBounds_toArray, List.set_cons_succ, List.set_cons_zero])
                | (refine mix_q rfl rfl rfl (by kernel_rfl) rfl rfl rfl ?_
                   apply Exists.intro
                   refine ⟨fun Wm => ?_, ?_⟩
                   · simp only [fin]
                     skip
                     intro K hK
                     go_wp2_with ((first | (go_at_call 33; (with_reducible refine (HCU2.out _ (HSK.out.up (up_upOf _ _))).mono ?_); rintro e w' ⟨rfl, rfl⟩) | (go_at_call 59; (with_reducible refine (HIE.out _ (HSK.out.up (up_upOf _ _))).mono ?_); rintro e w' ⟨rfl, hux⟩)))
                     refine hK _ _ ?_ ?_ ?_
                     · (repeat (first | with_reducible exact Up.refl _ | with_reducible refine Up.alloc ?_ _ | with_reducible refine Up.drew ?_ | with_reducible refine Up.drewN ?_ _ | with_reducible refine Up.setCell ?_ (by (try simp) <;> omega) _ | with_reducible assumption | with_reducible refine Up.trans ?_ (by assumption)))
                     · rfl
                     · exact tmps_at rfl
                   simp only [Act.put, List.setIfInBounds_toArray, List.set_cons_succ, List.set_cons_zero]))
              refine mix_nil ?_
              intro w9 hb_w9
              simp only [fin]
              have hu_w9 : Up wr w9 := by (repeat (first | with_reducible exact Up.refl _ | with_reducible refine Up.alloc ?_ _ | with_reducible refine Up.drew ?_ | with_reducible refine Up.drewN ?_ _ | with_reducible refine Up.setCell ?_ (by (try simp) <;> omega) _ | with_reducible assumption | with_reducible refine Up.trans ?_ (by assumption)))
              have hz_w9 := Up.size hb_w9
              try simp at hz_w9
              obtain ⟨bc_w9_0, bf_w9_0⟩ := hu_w9.at_ (bt) (by omega)
              have zb_w9_0 : bt < w9.heap.size := by omega
              go_wp2_with fail
              go_ret
              exact ⟨rfl, HUW.out.trans hb_w9⟩
    · have HRL := Lib.hid (HRX.out len (by have := HKL.out; omega))
      try simp only [HK.out]
      refine wp_region_mix (NS := [(63, RMs K)]) [63] rfl (by kernel_rfl) (by kernel_rfl) (by simp) (by intro p hp; simp only [List.mem_cons, List.mem_nil_iff, or_false] at hp; rcases hp with rfl; all_goals (first | exact rsl_up _ | exact rptr_up _ | exact rms_up _ | exact spanAt_up _ _ _ _ _ | exact rcs_up _ | exact rfb_up _ _)) ?_
      repeat (first
        | (refine mix_skip rfl rfl ?_; simp only [Act.put, List.setIfInBounds_toArray, List.set_cons_succ, List.set_cons_zero])
        | (refine mix_q rfl rfl rfl (by kernel_rfl) rfl rfl rfl ?_
           apply Exists.intro
           refine ⟨fun Wm => ?_, ?_⟩
           · simp only [fin]
             repeat (rintro (vm : Value) hvm; first | (obtain ⟨gm, om, rfl, hgm, hcm⟩ := hvm) | (obtain ⟨gm, om, cm, rfl, h2m, hxm, hgm, hcm, hdm⟩ := rsl_two hvm) | (obtain ⟨Am, nm, cm, rfl, hnm, hlm, hmm, hrm⟩ := hvm; (try simp only [List.length_cons, List.length_nil, Nat.zero_add, Nat.reduceAdd] at hnm); subst hnm) | (have hvs := hvm; obtain ⟨bm1, bm2, bm3, rfl, hbl, hbz, hbc⟩ := hvm))
             intro K hK
             go_wp2_with ((first | (go_at_call 62; (with_reducible refine (HTK.out _ (HS5.out.up (up_upOf _ _))).mono ?_); rintro e w' ⟨Ax, cx, rfl, hRx, hux⟩; have hRy := OwnI.told hRx) | (go_at_call 58; (with_reducible refine (eq_rms hrm (rms_up _ _ _ _ HRL.out (up_upOf _ _)) hl26).mono ?_); rintro e w' ⟨rfl, hux⟩)))
             refine hK _ _ ?_ ?_ ?_
             · (repeat (first | with_reducible exact Up.refl _ | with_reducible refine Up.alloc ?_ _ | with_reducible refine Up.drew ?_ | with_reducible refine Up.drewN ?_ _ | with_reducible refine Up.setCell ?_ (by (try simp) <;> omega) _ | with_reducible assumption | with_reducible refine Up.trans ?_ (by assumption)))
             · rfl
             · exact tmps_at rfl
           simp only [Act.put, List.setIfInBounds_toArray, List.set_cons_succ, List.set_cons_zero])
        | (refine mix_n rfl rfl rfl (by kernel_rfl) rfl rfl rfl ?_ ?_
           · intro Wm
             simp only [fin]
             repeat (rintro (vm : Value) hvm; first | (obtain ⟨gm, om, rfl, hgm, hcm⟩ := hvm) | (obtain ⟨gm, om, cm, rfl, h2m, hxm, hgm, hcm, hdm⟩ := rsl_two hvm) | (obtain ⟨Am, nm, cm, rfl, hnm, hlm, hmm, hrm⟩ := hvm; (try simp only [List.length_cons, List.length_nil, Nat.zero_add, Nat.reduceAdd] at hnm); subst hnm) | (have hvs := hvm; obtain ⟨bm1, bm2, bm3, rfl, hbl, hbz, hbc⟩ := hvm))
             intro K hK
             go_wp2_with ((first | (go_at_call 62; (with_reducible refine (HTK.out _ (HS5.out.up (up_upOf _ _))).mono ?_); rintro e w' ⟨Ax, cx, rfl, hRx, hux⟩; have hRy := OwnI.told hRx) | (go_at_call 58; (with_reducible refine (eq_rms hrm (rms_up _ _ _ _ HRL.out (up_upOf _ _)) hl26).mono ?_); rintro e w' ⟨rfl, hux⟩)))
             apply hK
             · (repeat (first | with_reducible exact Up.refl _ | with_reducible refine Up.alloc ?_ _ | with_reducible refine Up.drew ?_ | with_reducible refine Up.drewN ?_ _ | with_reducible refine Up.setCell ?_ (by (try simp) <;> omega) _ | with_reducible assumption | with_reducible refine Up.trans ?_ (by assumption)))
             · rfl
             · exact tmps_at rfl
             · first | exact rsl_lit _ _ _ _ _ _ rfl rfl (by simp [maxLen]) rfl | exact ⟨_, _, rfl, hgm, hcm⟩ | exact ⟨_, _, rfl, hgm, hdm⟩ | assumption
           simp only [Act.put, List.setIfInBounds_toArray, List.set_cons_succ, List.set_cons_zero]))
      refine mix_nil ?_
      intro w6 hb_w6
      simp only [fin]
      intro vm_w6_0 hvm_w6_0
      simp only [Act.put, List.setIfInBounds_toArray, List.set_cons_succ, List.set_cons_zero]
      have hu_w6 : Up w5 w6 := by (repeat (first | with_reducible exact Up.refl _ | with_reducible refine Up.alloc ?_ _ | with_reducible refine Up.drew ?_ | with_reducible refine Up.drewN ?_ _ | with_reducible refine Up.setCell ?_ (by (try simp) <;> omega) _ | with_reducible assumption | with_reducible refine Up.trans ?_ (by assumption)))
      have hz_w6 := Up.size hb_w6
      try simp at hz_w6
      obtain ⟨bc_w6_0, bf_w6_0⟩ := hu_w6.at_ (q) (by omega)
      obtain ⟨bc_w6_1, bf_w6_1⟩ := hu_w6.at_ (bt) (by omega)
      have zb_w6_0 : q < w6.heap.size := by omega
      have zb_w6_1 : bt < w6.heap.size := by omega
      go_wp2_with fail
      try simp only [hmod]
      try go_wp2_with fail
      refine (HPL.out _ (HS5.out.up hb_w6)).mono ?_
      rintro e w7 ⟨rfl, hs7, hk7⟩
      have HS7 := Lib.hid hs7
      have HK7 := Lib.hid hk7
      have zbt7 : bt < w7.heap.size := by have := hk7.size; omega
      have HROW7 := Lib.hid (show ∀ t, t < len → w7.cell? ⟨bt, ot + t, none⟩ = some (.int .i64 (T.getD t 0)) from fun t ht => ((hk7.at_ bt (by omega) (fun e => by rcases e with e | e <;> omega)).1 _).trans (((hb_w6.at_ bt (by omega)).1 _).trans (HROW.out t ht)))
      have HU7 := Lib.hid ((HU5.out.trans hb_w6).keep hk7 (fun i hi => by have h9 := HNE.out; rcases hi with hi | hi <;> omega))
      have HBT := Lib.hid (show bt ≠ p ∧ bt ≠ g from ⟨hbp, hbg⟩)
      clear hs7 hk7 HROW hxi hmod htl htu
      go_wp2_with fail
      go_loopw [90] (fun ii wr => ∃ j : Nat, j ≤ len ∧ ii = .int .i64 (j : Int) ∧ SAt wr p g (X.goTo (T.getD ((i + j) % len) 0)) ∧ Keep (two p g) w7 wr) (fun ii _ => len - (intOf ii).toNat)
      case atStart => exact ⟨0, by omega, rfl, by rw [Nat.add_zero, Nat.mod_eq_of_lt hi, HVE.out]; exact HS7.out, Keep.refl _ _⟩
      case round =>
        obtain ⟨j, hj, rfl, hsj, hkj⟩ := hrel
        have HSJ := Lib.hid hsj
        have HKJ := Lib.hid hkj
        have zbj : bt < wr.heap.size := by have := hkj.size; omega
        clear hsj hkj
        by_cases hlt : j < len
        · obtain ⟨t, ht⟩ : ∃ t, (i + j) % len = t := ⟨_, rfl⟩
          have htl : t < len := by rw [← ht]; exact Nat.mod_lt _ h0
          obtain ⟨t2, ht2⟩ : ∃ t2, (t + 1) % len = t2 := ⟨_, rfl⟩
          have htl2 : t2 < len := by rw [← ht2]; exact Nat.mod_lt _ h0
          have hN2 : (i + (j + 1)) % len = t2 := by rw [← ht2, ← ht, Nat.mod_add_mod, Nat.add_assoc]
          have HN2 := Lib.hid hN2
          have hm2 : ((i : Int) + 1 + (j : Int)) % (len : Int) = (t2 : Int) := by
            rw [show (i : Int) + 1 + (j : Int) = ((i + (j + 1) : Nat) : Int) by omega, ← Int.natCast_emod, hN2]
          have hm3 : ((i : Int) + 1 + (j : Int)).tmod (len : Int) = (t2 : Int) := by rw [tmod_nn _ _ (by omega)]; exact hm2
          rw [ht] at HSJ
          have hF := HT1.out t htl
          rw [ht2] at hF
          have hb1 := HTB.out t htl
          have hb2 := HTB.out t2 htl2
          have HTAB := Lib.hid (fun W (h' : SAt W p g (X.goTo (T.getD t 0))) => ctab_is h' (goTo_ok HOK.out hb1.1 hb1.2.1))
          have eT : (X.goTo (T.getD t 0)).goTo (tabN (X.goTo (T.getD t 0)) (X.goTo (T.getD t 0)).cur 1) = X.goTo (T.getD t2 0) := by
            show X.goTo (max (X.find (T.getD t 0) 1) 0) = _
            rw [hF]; congr 1; omega
          rw [eT] at HTAB
          have HCU2 := Lib.hid (fun W (h' : SAt W p g (X.goTo (T.getD t2 0))) => scur_is h')
          have eC : (X.goTo (T.getD t2 0)).cur = T.getD t2 0 := rfl
          rw [eC] at HCU2
          have hx2 := ((HKJ.out.at_ bt zbt7 (fun e => by have h9 := HBT.out; rcases e with e | e <;> omega)).1 (ot + t2)).trans (HROW7.out t2 htl2)
          obtain ⟨v2, hv2⟩ : ∃ v2, T.getD t2 0 = v2 := ⟨_, rfl⟩
          have HV2 := Lib.hid hv2
          rw [hv2] at HTAB HCU2 hx2
          have hjn : (j : Int) < (len : Int) := by omega
          have htl3 : (t2 : Int) < (len : Int) := by omega
          clear ht ht2 hN2 hF hb1 hb2 eT eC hv2
          go_wp2_with fail
          refine (HTAB.out _ HSJ.out).mono ?_
          rintro e w8 ⟨rfl, hs8, hk8⟩
          have HS8 := Lib.hid hs8
          have HK8 := Lib.hid (HKJ.out.trans hk8)
          have hx8 := ((hk8.at_ bt zbj (fun e => by have h9 := HBT.out; rcases e with e | e <;> omega)).1 (ot + t2)).trans hx2
          have zb8 : bt < w8.heap.size := by have := hk8.size; omega
          clear hs8 hk8 hx2
          go_wp2_with fail
          refine wp_region_mix (NS := []) [] rfl (by kernel_rfl) (by kernel_rfl) (by simp) (by simp) ?_
          repeat (first
            | (refine mix_skip rfl rfl ?_; simp only [Act.put, List.setIfInBounds_toArray, List.set_cons_succ, List.set_cons_zero])
            | (refine mix_q rfl rfl rfl (by kernel_rfl) rfl rfl rfl ?_
               apply Exists.intro
               refine ⟨fun Wm => ?_, ?_⟩
               · simp only [fin]
                 skip
                 intro K hK
                 go_wp2_with ((go_at_call 33; (with_reducible refine (HCU2.out _ (HS8.out.up (up_upOf _ _))).mono ?_); rintro e w' ⟨rfl, rfl⟩))
                 refine hK _ _ ?_ ?_ ?_
                 · (repeat (first | with_reducible exact Up.refl _ | with_reducible refine Up.alloc ?_ _ | with_reducible refine Up.drew ?_ | with_reducible refine Up.drewN ?_ _ | with_reducible refine Up.setCell ?_ (by (try simp) <;> omega) _ | with_reducible assumption | with_reducible refine Up.trans ?_ (by assumption)))
                 · rfl
                 · exact tmps_at rfl
               simp only [Act.put, List.setIfInBounds_toArray, List.set_cons_succ, List.set_cons_zero]))
          refine mix_nil ?_
          intro w9 hb_w9
          simp only [fin]
          have hu_w9 : Up w8 w9 := by (repeat (first | with_reducible exact Up.refl _ | with_reducible refine Up.alloc ?_ _ | with_reducible refine Up.drew ?_ | with_reducible refine Up.drewN ?_ _ | with_reducible refine Up.setCell ?_ (by (try simp) <;> omega) _ | with_reducible assumption | with_reducible refine Up.trans ?_ (by assumption)))
          have hz_w9 := Up.size hb_w9
          try simp at hz_w9
          obtain ⟨bc_w9_0, bf_w9_0⟩ := hu_w9.at_ (bt) (by omega)
          have zb_w9_0 : bt < w9.heap.size := by omega
          go_wp2_with fail
          try go_wp2_with fail
          go_roundw
          case rel => exact ⟨j + 1, by omega, by go_num, by rw [HN2.out, HV2.out]; exact HS8.out.up hb_w9, HK8.out.up hb_w9⟩
          case measure => simp [intOf]; omega
        · obtain rfl : j = len := by omega
          have hmi : (i + j) % j = i := by rw [Nat.add_mod_right, Nat.mod_eq_of_lt hi]
          rw [hmi] at HSJ
          clear hmi
          generalize wr = wb at *
          go_wp2_with fail
          go_loopw [111] (fun ii wr => ∃ (k t : Nat), k ≤ j ∧ t < j ∧ (t + k) % j = i ∧ ii = .int .i64 (k : Int) ∧ SAt wr p g (X.goTo (T.getD t 0)) ∧ Keep (two p g) w7 wr) (fun ii _ => j - (intOf ii).toNat)
          case atStart => exact ⟨0, i, by omega, hi, by rw [Nat.add_zero, Nat.mod_eq_of_lt hi], rfl, HSJ.out, HKJ.out⟩
          case round =>
            obtain ⟨k, t, hk, htj, htk, rfl, hsk, hkk⟩ := hrel
            have HSK := Lib.hid hsk
            have HKK := Lib.hid hkk
            have HTK2 := Lib.hid htk
            have zbk : bt < wr.heap.size := by have := hkk.size; omega
            clear hsk hkk htk
            by_cases hlt2 : k < j
            · obtain ⟨t', ht', hte⟩ := back_of_next htj
              have hF := HT2.out t' ht'
              rw [hte] at hF
              have hb1 := HTB.out t htj
              have hb2 := HTB.out t' ht'
              have HTAB := Lib.hid (fun W (h' : SAt W p g (X.goTo (T.getD t 0))) => cback_is h' (goTo_ok HOK.out hb1.1 hb1.2.1))
              have eT : (X.goTo (T.getD t 0)).goTo (tabN (X.goTo (T.getD t 0)) (X.goTo (T.getD t 0)).cur (-1)) = X.goTo (T.getD t' 0) := by
                show X.goTo (max (X.find (T.getD t 0) (-1)) 0) = _
                rw [hF]; congr 1; omega
              rw [eT] at HTAB
              have HTE2 := Lib.hid (show (t' + (k + 1)) % j = i by rw [← HTK2.out, ← hte, Nat.mod_add_mod]; congr 1; omega)
              have hkj : (k : Int) < (j : Int) := by omega
              clear hF hb1 hb2 eT hte
              go_wp2_with fail
              refine (HTAB.out _ HSK.out).mono ?_
              rintro e w8 ⟨rfl, hs8, hk8⟩
              have HS8 := Lib.hid hs8
              have HK8 := Lib.hid (HKK.out.trans hk8)
              clear hs8 hk8
              go_wp2_with fail
              go_roundw
              case rel => exact ⟨k + 1, t', by omega, ht', HTE2.out, by go_num, HS8.out, HK8.out⟩
              case measure => simp [intOf]; omega
            · obtain rfl : k = j := by omega
              have hti : t = i := by
                have h9 := HTK2.out
                rw [Nat.add_mod_right, Nat.mod_eq_of_lt htj] at h9; exact h9
              subst hti
              rw [HVE.out] at HSK
              have hb1 := HTB.out t htj
              rw [HVE.out] at hb1
              have HIE := Lib.hid (fun W (h' : SAt W p g (X.goTo v)) => HIG.out W v h' (goTo_ok HOK.out hb1.1 hb1.2.1))
              have ei : idxVal T v = (t : Int) := by rw [← HVE.out]; exact idx_at HSO.out (by rw [HLN.out]; exact htj)
              rw [ei] at HIE
              have HCU2 := Lib.hid (fun W (h' : SAt W p g (X.goTo v)) => scur_is h')
              have eC : (X.goTo v).cur = v := rfl
              rw [eC] at HCU2
              have hx2 := ((HKK.out.at_ bt zbt7 (fun e => by have h9 := HBT.out; rcases e with e | e <;> omega)).1 (ot + t)).trans (HROW7.out t htj)
              rw [HVE.out] at hx2
              have HUW := Lib.hid (HU7.out.keep HKK.out (fun i hi => by have h9 := HNE.out; rcases hi with hi | hi <;> omega))
              clear hb1 ei eC
              go_wp2_with fail
              refine wp_region_mix (NS := []) [] rfl (by kernel_rfl) (by kernel_rfl) (by simp) (by simp) ?_
              repeat (first
                | (refine mix_skip rfl rfl ?_; simp only [Act.put, List.setIfInBounds_toArray, List.set_cons_succ, List.set_cons_zero])
                | (refine mix_q rfl rfl rfl (by kernel_rfl) rfl rfl rfl ?_
                   apply Exists.intro
                   refine ⟨fun Wm => ?_, ?_⟩
                   · simp only [fin]
                     skip
                     intro K hK
                     go_wp2_with ((first | (go_at_call 33; (with_reducible refine (HCU2.out _ (HSK.out.up (up_upOf _ _))).mono ?_); rintro e w' ⟨rfl, rfl⟩) | (go_at_call 59; (with_reducible refine (HIE.out _ (HSK.out.up (up_upOf _ _))).mono ?_); rintro e w' ⟨rfl, hux⟩)))
                     refine hK _ _ ?_ ?_ ?_
                     · (repeat (first | with_reducible exact Up.refl _ | with_reducible refine Up.alloc ?_ _ | with_reducible refine Up.drew ?_ | with_reducible refine Up.drewN ?_ _ | with_reducible refine Up.setCell ?_ (by (try simp) <;> omega) _ | with_reducible assumption | with_reducible refine Up.trans ?_ (by assumption)))
                     · rfl
                     · exact tmps_at rfl
                   simp only [Act.put, List.setIfInBounds_toArray, List.set_cons_succ, List.set_cons_zero]))
              refine mix_nil ?_
              intro w9 hb_w9
              simp only [fin]
              have hu_w9 : Up wr w9 := by (repeat (first | with_reducible exact Up.refl _ | with_reducible refine Up.alloc ?_ _ | with_reducible refine Up.drew ?_ | with_reducible refine Up.drewN ?_ _ | with_reducible refine Up.setCell ?_ (by (try simp) <;> omega) _ | with_reducible assumption | with_reducible refine Up.trans ?_ (by assumption)))
              have hz_w9 := Up.size hb_w9
              try simp at hz_w9
              obtain ⟨bc_w9_0, bf_w9_0⟩ := hu_w9.at_ (bt) (by omega)
              have zb_w9_0 : bt < w9.heap.size := by omega
              go_wp2_with fail
              go_ret
              exact ⟨rfl, HUW.out.trans hb_w9⟩
end Go.Proofs.Ytjokcfenncogkaa
