/-
  The walk of law 08's OptionRefuses. No condition.
-/
import Derived.Test.YtmnepolfiipfcaaOpt7
import Derived.Test.YtmnepolfiipfcaaMix
namespace Go.Proofs.Ytmnepolfiipfcaa
open Go.RowKit
set_option linter.unusedVariables false
set_option linter.unusedSimpArgs false

set_option maxRecDepth 100000 in
set_option maxHeartbeats 6400000 in
theorem law_refuses (A1 : Option Addr) (n1 c1 : Nat) (l1 : List Int) (A2 : Option Addr) (n2 c2 : Nat) (l2 : List Int) (A3 : Option Addr) (n3 c3 : Nat) (L : List OpT) (w : World)
    (hl1 : l1.length = n1) (hn1 : n1 ≤ c1) (hc1 : c1 ≤ maxLen) (hw1 : ∀ x ∈ l1, 0 ≤ x ∧ x ≤ 255) (hr1 : Reads w w.heap.size 1 A1 n1 (l1.map (Value.int .u8)))
    (hl2 : l2.length = n2) (hn2 : n2 ≤ c2) (hc2 : c2 ≤ maxLen) (hw2 : ∀ x ∈ l2, 0 ≤ x ∧ x ≤ 255) (hr2 : Reads w w.heap.size 1 A2 n2 (l2.map (Value.int .u8)))
    (hl3 : L.length = n3) (hn3 : n3 ≤ c3) (hc3 : c3 ≤ maxLen) (hw3 : ∀ x ∈ L, 0 ≤ x.2.1 ∧ x.2.1 ≤ 255 ∧ 0 ≤ x.2.2.1 ∧ x.2.2.1 ≤ 255 ∧ -9223372036854775808 ≤ x.2.2.2.1 ∧ x.2.2.2.1 ≤ 9223372036854775807) (hr3 : Reads w w.heap.size 5 A3 n3 (L.flatMap encOp)) :
    Calls Try.prog 3 #[.slice A1 n1 c1, .slice A2 n2 c2, .slice A3 n3 c3] w fun e w' => e = .returned (.bool true) ∧ Up w w' := by
  have hn3' : n3 ≤ 9223372036854775807 := by simp [maxLen] at hc3; omega
  have HR1 : Hid (Reads w w.heap.size 1 A1 n1 (bs l1)) := hr1
  have HR2 : Hid (Reads w w.heap.size 1 A2 n2 (bs l2)) := hr2
  have HR3 := Lib.hid hr3
  have HL := Lib.hid hl3
  clear hr1 hr2 hr3 hl1 hl2 hl3
  go_enter Try.func3, Try.ntmps3
  go_wp2_with fail
  refine (awake08 _).mono ?_
  rintro e wa ⟨rfl, ua⟩
  go_wp2_with fail
  refine (cut_own (HR1.out.up ua) hn1 hc1 20 (by omega) (by omega)).mono ?_
  rintro e wb ⟨B1, m1, d1, rfl, hm1, hs1, hf1, hd1, he1, ub⟩
  have hs1' := Lib.hid hs1
  clear hf1 hs1
  go_wp2_with fail
  refine (cut_own (HR2.out.up (ua.trans ub)) hn2 hc2 20 (by omega) (by omega)).mono ?_
  rintro e wc ⟨B2, m2, d2, rfl, hm2, hs2, hf2, hd2, he2, uc⟩
  have hs1 := hs1'.out.up uc
  clear hf2 hs1'
  go_wp2_with fail
  refine (new_at hs1 hs2 (by omega) (by omega) (fun x hx => hw1 x (List.mem_of_mem_take hx)) (fun x hx => hw2 x (List.mem_of_mem_take hx))).mono ?_
  rintro e wd ⟨b, rfl, hb0, hb1, hm, ud⟩
  have hR1 := Lib.hid (hs1.below ud)
  have hR2 := Lib.hid (hs2.below ud)
  clear hs1 hs2
  obtain ⟨G, hGe, hG0, hG1⟩ : ∃ G, agr (l1.take (Int.toNat 20)) (l2.take (Int.toNat 20)) = G ∧ (∀ o : Nat, decide ((o : Int) ∈ l1.take (Int.toNat 20)) = G 0 o) ∧ (∀ o : Nat, decide ((o : Int) ∈ l2.take (Int.toNat 20)) = G 1 o) := ⟨_, rfl, fun _ => rfl, fun _ => rfl⟩
  rw [hGe] at hm
  generalize l1.take (Int.toNat 20) = k1 at *
  generalize l2.take (Int.toNat 20) = k2 at *
  have HG0 := Lib.hid hG0
  have HG1 := Lib.hid hG1
  have hW3 := Lib.hid hw3
  have hM := Lib.hid hm
  have hUd : Up w wd := by (repeat (first | with_reducible exact Up.refl _ | with_reducible refine Up.alloc ?_ _ | with_reducible refine Up.drew ?_ | with_reducible refine Up.drewN ?_ _ | with_reducible refine Up.setCell ?_ (by (try simp) <;> omega) _ | with_reducible assumption | with_reducible refine Up.trans ?_ (by assumption)))
  have hL3 : Hid (Reads wd w.heap.size 5 A3 n3 (L.flatMap encOp)) := HR3.out.below hUd
  clear hm hGe hG0 hG1 hw3 HR1 HR2 hw1 hw2
  have zd := hUd.size
  have zc : w.heap.size ≤ wc.heap.size := by have := (ua.trans (ub.trans uc)).size; exact this
  go_wp2_with fail
  go_loopw [26] (fun i wr => ∃ (j : Nat) (S : Nat → Nat → Int), j ≤ n3 ∧ i = .int .i64 (j : Int) ∧ okS S ∧ RInv S G ∧ MAt wr b S G ∧ Near b wd wr) (fun i _ => n3 - (intOf i).toNat)
  case atStart => exact ⟨0, _, by omega, rfl, okS_zero, fun _ _ _ => rfl, hM.out, Near.refl _ _⟩
  case round =>
    obtain ⟨j, S, hj, rfl, hok, hinv, hm, hk⟩ := hrel
    have HO := Lib.hid hok
    have HI := Lib.hid hinv
    clear hok hinv
    by_cases h60 : j < n3 ∧ j < 60
    · obtain ⟨hlt, hj60⟩ := h60
      obtain ⟨b3, off, rfl, hb3⟩ := HR3.out.form (by omega)
      have hx : L[j]? = some (L[j]'(by have := HL.out; omega)) := List.getElem?_eq_getElem _
      have hwx := hW3.out _ (List.mem_of_getElem? hx)
      have hcl : Reads wr w.heap.size 5 (some ⟨b3, off, none⟩) n3 (L.flatMap encOp) := (hL3.out.more (Nat.le_refl _)).held hk (by omega) (by intro i hi; omega)
      obtain ⟨x1, x2, x3, x4, x5⟩ := op_at hcl hx
      have hz3 : b3 < wr.heap.size := by have := hk.size; omega
      have hzr := hk.size
      have hbr : b < wr.heap.size := by omega
      generalize L[j]'(by have := HL.out; omega) = x at x1 x2 x3 x4 x5 hwx
      obtain ⟨hh, v, ko, sd, on⟩ := x
      obtain ⟨hv0, hv1, hk0, hk1, -, -⟩ := hwx
      simp only at x1 x2 x3 x4 x5 hv0 hv1 hk0 hk1
      obtain ⟨k, hk256, rfl⟩ := byte_nat ⟨hk0, hk1⟩
      clear hx hcl hk0 hk1
      have hM' := Lib.hid hm
      clear hm
      by_cases hv : isVerb v
      · rcases hv with rfl | rfl | rfl | rfl
        · go_wp2_with fail
          refine (hear_at k (hM'.out.up ((Up.refl wr).alloc _) hbr) (by simp; omega) hk256 rfl).mono ?_
          rintro e we ⟨A, n, c, rfl, hn, hr, hf, hm, hke⟩
          rw [show hearE 251 = 0 from rfl]
          have hkw : Near b wd we := hk.trans (((Near.refl _ _).up ((Up.refl _).alloc _)).trans hke)
          have hME := Lib.hid hm
          have hHR := Lib.hid hr
          have hHN := Lib.hid hn
          have hHF := Lib.hid hf
          have hz1 : wr.heap.size < we.heap.size := by have := hke.size; simp at this; omega
          have hze := hke.size
          simp at hze
          have hbe : b < we.heap.size := by omega
          obtain ⟨yc, yf⟩ := hke.at_ wr.heap.size (by simp) (by omega)
          have hq := Lib.hid (hR2.out.held hkw (by omega) (by intro i hi; omega))
          clear hn hr hf hm
          cases ht : G 1 k
          · have hte := Lib.hid ((HG1.out k).trans ht)
            have htt := Lib.hid ht
            clear ht
            go_wp2_with fail
            refine (contains_any hq.out (by omega) hte.out).mono ?_
            rintro e wf ⟨rfl, rfl⟩
            obtain ⟨rfl, g, o, rfl, hg, c1, c2⟩ := word_one' hHR.out (on_refused (v := 251) (x := 254) HI.out rfl htt.out (by decide) rfl) hHN.out
            go_wp2_with fail
            refine wp_region_mix (NS := [(82, RSl [252, 254]), (84, RPtr (.int .u8 254))]) [82, 84] rfl (by kernel_rfl) (by kernel_rfl) (by simp) (by intro p hp; simp only [List.mem_cons, List.mem_nil_iff, or_false] at hp; rcases hp with rfl | rfl; all_goals (first | exact rsl_up _ | exact rptr_up _)) ?_
            repeat (first
              | (refine mix_skip rfl rfl ?_; simp only [Act.put, List.setIfInBounds_toArray, List.set_cons_succ, List.set_cons_zero])
              | (refine mix_q rfl rfl rfl (by kernel_rfl) rfl rfl rfl ?_
                 apply Exists.intro
                 refine ⟨fun Wm => ?_, ?_⟩
                 · simp only [fin]
                   repeat (first | (rintro _ ⟨gm, om, rfl, hgm, hcm⟩) | (intro vm hvm; obtain ⟨gm, om, cm, rfl, h2m, hxm, hgm, hcm, hdm⟩ := rsl_two hvm) | (rintro _ ⟨Am, nm, cm, rfl, hnm, hlm, hmm, hrm⟩))
                   intro K hK
                   go_wp2_with ((go_at_call 13; refine (on_at 1 k (hME.out.up (up_upOf _ _) hbe) (hearS_ok HO.out) (by omega) hk256 rfl rfl (still_off HI.out htt.out)).mono ?_; rintro e w' ⟨rfl, rfl⟩))
                   refine hK _ _ ?_ ?_ ?_
                   · (repeat (first | with_reducible exact Up.refl _ | with_reducible refine Up.alloc ?_ _ | with_reducible refine Up.drew ?_ | with_reducible refine Up.drewN ?_ _ | with_reducible refine Up.setCell ?_ (by (try simp) <;> omega) _ | with_reducible assumption | with_reducible refine Up.trans ?_ (by assumption)))
                   · rfl
                   · rfl
                 simp only [Act.put, List.setIfInBounds_toArray, List.set_cons_succ, List.set_cons_zero])
              | (refine mix_n rfl rfl rfl (by kernel_rfl) rfl rfl rfl ?_ ?_
                 · intro Wm
                   simp only [fin]
                   repeat (first | (rintro _ ⟨gm, om, rfl, hgm, hcm⟩) | (intro vm hvm; obtain ⟨gm, om, cm, rfl, h2m, hxm, hgm, hcm, hdm⟩ := rsl_two hvm) | (rintro _ ⟨Am, nm, cm, rfl, hnm, hlm, hmm, hrm⟩))
                   intro K hK
                   go_wp2_with ((go_at_call 13; refine (on_at 1 k (hME.out.up (up_upOf _ _) hbe) (hearS_ok HO.out) (by omega) hk256 rfl rfl (still_off HI.out htt.out)).mono ?_; rintro e w' ⟨rfl, rfl⟩))
                   first | (refine hK _ _ _ ?_ ?_ ?_ (rsl_lit _ _ _ _ _ _ rfl rfl (by simp [maxLen]) rfl)) | (refine hK _ _ _ ?_ ?_ ?_ ⟨_, _, rfl, hgm, hcm⟩) | (refine hK _ _ _ ?_ ?_ ?_ ⟨_, _, rfl, hgm, hdm⟩) | (refine hK _ _ _ ?_ ?_ ?_ (by assumption))
                   · (repeat (first | with_reducible exact Up.refl _ | with_reducible refine Up.alloc ?_ _ | with_reducible refine Up.drew ?_ | with_reducible refine Up.drewN ?_ _ | with_reducible refine Up.setCell ?_ (by (try simp) <;> omega) _ | with_reducible assumption | with_reducible refine Up.trans ?_ (by assumption)))
                   · rfl
                   · rfl
                 simp only [Act.put, List.setIfInBounds_toArray, List.set_cons_succ, List.set_cons_zero]))
            refine mix_nil ?_
            intro wm hb_wm
            simp only [fin]
            intro vm_wm_0 hvm_wm_0
            intro vm_wm_1 hvm_wm_1
            simp only [Act.put, List.setIfInBounds_toArray, List.set_cons_succ, List.set_cons_zero]
            have hu_wm : Up we wm := by (repeat (first | with_reducible exact Up.refl _ | with_reducible refine Up.alloc ?_ _ | with_reducible refine Up.drew ?_ | with_reducible refine Up.drewN ?_ _ | with_reducible refine Up.setCell ?_ (by (try simp) <;> omega) _ | with_reducible assumption | with_reducible refine Up.trans ?_ (by assumption)))
            have hz_wm := Up.size hb_wm
            try simp at hz_wm
            go_wp2_with fail
            go_roundw
            case rel => exact ⟨j + 1, _, by omega, by go_num, hearS_ok HO.out, HI.out.hear, hME.out.up (by (repeat (first | with_reducible exact Up.refl _ | with_reducible refine Up.alloc ?_ _ | with_reducible refine Up.drew ?_ | with_reducible refine Up.drewN ?_ _ | with_reducible refine Up.setCell ?_ (by (try simp) <;> omega) _ | with_reducible assumption | with_reducible refine Up.trans ?_ (by assumption)))) hbe, hkw.up (by (repeat (first | with_reducible exact Up.refl _ | with_reducible refine Up.alloc ?_ _ | with_reducible refine Up.drew ?_ | with_reducible refine Up.drewN ?_ _ | with_reducible refine Up.setCell ?_ (by (try simp) <;> omega) _ | with_reducible assumption | with_reducible refine Up.trans ?_ (by assumption))))⟩
            case measure => simp [intOf]; omega
          · have hte := Lib.hid ((HG1.out k).trans ht)
            clear ht
            go_wp2_with fail
            refine (contains_any hq.out (by omega) hte.out).mono ?_
            rintro e wf ⟨rfl, rfl⟩
            go_wp2
            go_roundw
            case rel => exact ⟨j + 1, _, by omega, by go_num, hearS_ok HO.out, HI.out.hear, hME.out, hkw⟩
            case measure => simp [intOf]; omega
        · go_wp2_with fail
          refine (hear_at k (hM'.out.up ((Up.refl wr).alloc _) hbr) (by simp; omega) hk256 rfl).mono ?_
          rintro e we ⟨A, n, c, rfl, hn, hr, hf, hm, hke⟩
          rw [show hearE 252 = 0 from rfl]
          have hkw : Near b wd we := hk.trans (((Near.refl _ _).up ((Up.refl _).alloc _)).trans hke)
          have hME := Lib.hid hm
          have hHR := Lib.hid hr
          have hHN := Lib.hid hn
          have hHF := Lib.hid hf
          have hz1 : wr.heap.size < we.heap.size := by have := hke.size; simp at this; omega
          have hze := hke.size
          simp at hze
          have hbe : b < we.heap.size := by omega
          obtain ⟨yc, yf⟩ := hke.at_ wr.heap.size (by simp) (by omega)
          have hq := Lib.hid (hR2.out.held hkw (by omega) (by intro i hi; omega))
          clear hn hr hf hm
          cases ht : G 1 k
          · have hte := Lib.hid ((HG1.out k).trans ht)
            have htt := Lib.hid ht
            clear ht
            go_wp2_with fail
            refine (contains_any hq.out (by omega) hte.out).mono ?_
            rintro e wf ⟨rfl, rfl⟩
            obtain rfl : n = 0 := hHN.out.trans (by rw [off_refused (v := 252) HI.out rfl htt.out (by decide)]; rfl)
            go_wp2_with fail
            refine wp_region_mix (NS := []) [] rfl (by kernel_rfl) (by kernel_rfl) (by simp) (by simp) ?_
            repeat (first
              | (refine mix_skip rfl rfl ?_; simp only [Act.put, List.setIfInBounds_toArray, List.set_cons_succ, List.set_cons_zero])
              | (refine mix_q rfl rfl rfl (by kernel_rfl) rfl rfl rfl ?_
                 apply Exists.intro
                 refine ⟨fun Wm => ?_, ?_⟩
                 · simp only [fin]
                   repeat (first | (rintro _ ⟨gm, om, rfl, hgm, hcm⟩) | (intro vm hvm; obtain ⟨gm, om, cm, rfl, h2m, hxm, hgm, hcm, hdm⟩ := rsl_two hvm) | (rintro _ ⟨Am, nm, cm, rfl, hnm, hlm, hmm, hrm⟩))
                   intro K hK
                   go_wp2_with ((go_at_call 13; refine (on_at 1 k (hME.out.up (up_upOf _ _) hbe) (hearS_ok HO.out) (by omega) hk256 rfl rfl (still_off HI.out htt.out)).mono ?_; rintro e w' ⟨rfl, rfl⟩))
                   refine hK _ _ ?_ ?_ ?_
                   · (repeat (first | with_reducible exact Up.refl _ | with_reducible refine Up.alloc ?_ _ | with_reducible refine Up.drew ?_ | with_reducible refine Up.drewN ?_ _ | with_reducible refine Up.setCell ?_ (by (try simp) <;> omega) _ | with_reducible assumption | with_reducible refine Up.trans ?_ (by assumption)))
                   · rfl
                   · rfl
                 simp only [Act.put, List.setIfInBounds_toArray, List.set_cons_succ, List.set_cons_zero]))
            refine mix_nil ?_
            intro wm hb_wm
            simp only [fin]
            have hu_wm : Up we wm := by (repeat (first | with_reducible exact Up.refl _ | with_reducible refine Up.alloc ?_ _ | with_reducible refine Up.drew ?_ | with_reducible refine Up.drewN ?_ _ | with_reducible refine Up.setCell ?_ (by (try simp) <;> omega) _ | with_reducible assumption | with_reducible refine Up.trans ?_ (by assumption)))
            have hz_wm := Up.size hb_wm
            try simp at hz_wm
            go_wp2_with fail
            go_roundw
            case rel => exact ⟨j + 1, _, by omega, by go_num, hearS_ok HO.out, HI.out.hear, hME.out.up (by (repeat (first | with_reducible exact Up.refl _ | with_reducible refine Up.alloc ?_ _ | with_reducible refine Up.drew ?_ | with_reducible refine Up.drewN ?_ _ | with_reducible refine Up.setCell ?_ (by (try simp) <;> omega) _ | with_reducible assumption | with_reducible refine Up.trans ?_ (by assumption)))) hbe, hkw.up (by (repeat (first | with_reducible exact Up.refl _ | with_reducible refine Up.alloc ?_ _ | with_reducible refine Up.drew ?_ | with_reducible refine Up.drewN ?_ _ | with_reducible refine Up.setCell ?_ (by (try simp) <;> omega) _ | with_reducible assumption | with_reducible refine Up.trans ?_ (by assumption))))⟩
            case measure => simp [intOf]; omega
          · have hte := Lib.hid ((HG1.out k).trans ht)
            clear ht
            go_wp2_with fail
            refine (contains_any hq.out (by omega) hte.out).mono ?_
            rintro e wf ⟨rfl, rfl⟩
            go_wp2
            go_roundw
            case rel => exact ⟨j + 1, _, by omega, by go_num, hearS_ok HO.out, HI.out.hear, hME.out, hkw⟩
            case measure => simp [intOf]; omega
        · go_wp2_with fail
          refine (hear_at k (hM'.out.up ((Up.refl wr).alloc _) hbr) (by simp; omega) hk256 rfl).mono ?_
          rintro e we ⟨A, n, c, rfl, hn, hr, hf, hm, hke⟩
          rw [show hearE 253 = 0 from rfl]
          have hkw : Near b wd we := hk.trans (((Near.refl _ _).up ((Up.refl _).alloc _)).trans hke)
          have hME := Lib.hid hm
          have hHR := Lib.hid hr
          have hHN := Lib.hid hn
          have hHF := Lib.hid hf
          have hz1 : wr.heap.size < we.heap.size := by have := hke.size; simp at this; omega
          have hze := hke.size
          simp at hze
          have hbe : b < we.heap.size := by omega
          obtain ⟨yc, yf⟩ := hke.at_ wr.heap.size (by simp) (by omega)
          have hq := Lib.hid (hR1.out.held hkw (by omega) (by intro i hi; omega))
          clear hn hr hf hm
          cases ht : G 0 k
          · have hte := Lib.hid ((HG0.out k).trans ht)
            have htt := Lib.hid ht
            clear ht
            go_wp2_with fail
            refine (contains_any hq.out (by omega) hte.out).mono ?_
            rintro e wf ⟨rfl, rfl⟩
            obtain ⟨rfl, g, o, rfl, hg, c1, c2⟩ := word_one' hHR.out (on_refused (v := 253) (x := 252) HI.out rfl htt.out (by decide) rfl) hHN.out
            go_wp2_with fail
            refine wp_region_mix (NS := [(82, RSl [252, 254]), (84, RPtr (.int .u8 252))]) [82, 84] rfl (by kernel_rfl) (by kernel_rfl) (by simp) (by intro p hp; simp only [List.mem_cons, List.mem_nil_iff, or_false] at hp; rcases hp with rfl | rfl; all_goals (first | exact rsl_up _ | exact rptr_up _)) ?_
            repeat (first
              | (refine mix_skip rfl rfl ?_; simp only [Act.put, List.setIfInBounds_toArray, List.set_cons_succ, List.set_cons_zero])
              | (refine mix_q rfl rfl rfl (by kernel_rfl) rfl rfl rfl ?_
                 apply Exists.intro
                 refine ⟨fun Wm => ?_, ?_⟩
                 · simp only [fin]
                   repeat (first | (rintro _ ⟨gm, om, rfl, hgm, hcm⟩) | (intro vm hvm; obtain ⟨gm, om, cm, rfl, h2m, hxm, hgm, hcm, hdm⟩ := rsl_two hvm) | (rintro _ ⟨Am, nm, cm, rfl, hnm, hlm, hmm, hrm⟩))
                   intro K hK
                   go_wp2_with ((go_at_call 13; refine (on_at 0 k (hME.out.up (up_upOf _ _) hbe) (hearS_ok HO.out) (by omega) hk256 rfl rfl (still_off HI.out htt.out)).mono ?_; rintro e w' ⟨rfl, rfl⟩))
                   refine hK _ _ ?_ ?_ ?_
                   · (repeat (first | with_reducible exact Up.refl _ | with_reducible refine Up.alloc ?_ _ | with_reducible refine Up.drew ?_ | with_reducible refine Up.drewN ?_ _ | with_reducible refine Up.setCell ?_ (by (try simp) <;> omega) _ | with_reducible assumption | with_reducible refine Up.trans ?_ (by assumption)))
                   · rfl
                   · rfl
                 simp only [Act.put, List.setIfInBounds_toArray, List.set_cons_succ, List.set_cons_zero])
              | (refine mix_n rfl rfl rfl (by kernel_rfl) rfl rfl rfl ?_ ?_
                 · intro Wm
                   simp only [fin]
                   repeat (first | (rintro _ ⟨gm, om, rfl, hgm, hcm⟩) | (intro vm hvm; obtain ⟨gm, om, cm, rfl, h2m, hxm, hgm, hcm, hdm⟩ := rsl_two hvm) | (rintro _ ⟨Am, nm, cm, rfl, hnm, hlm, hmm, hrm⟩))
                   intro K hK
                   go_wp2_with ((go_at_call 13; refine (on_at 0 k (hME.out.up (up_upOf _ _) hbe) (hearS_ok HO.out) (by omega) hk256 rfl rfl (still_off HI.out htt.out)).mono ?_; rintro e w' ⟨rfl, rfl⟩))
                   first | (refine hK _ _ _ ?_ ?_ ?_ (rsl_lit _ _ _ _ _ _ rfl rfl (by simp [maxLen]) rfl)) | (refine hK _ _ _ ?_ ?_ ?_ ⟨_, _, rfl, hgm, hcm⟩) | (refine hK _ _ _ ?_ ?_ ?_ ⟨_, _, rfl, hgm, hdm⟩) | (refine hK _ _ _ ?_ ?_ ?_ (by assumption))
                   · (repeat (first | with_reducible exact Up.refl _ | with_reducible refine Up.alloc ?_ _ | with_reducible refine Up.drew ?_ | with_reducible refine Up.drewN ?_ _ | with_reducible refine Up.setCell ?_ (by (try simp) <;> omega) _ | with_reducible assumption | with_reducible refine Up.trans ?_ (by assumption)))
                   · rfl
                   · rfl
                 simp only [Act.put, List.setIfInBounds_toArray, List.set_cons_succ, List.set_cons_zero]))
            refine mix_nil ?_
            intro wm hb_wm
            simp only [fin]
            intro vm_wm_0 hvm_wm_0
            intro vm_wm_1 hvm_wm_1
            simp only [Act.put, List.setIfInBounds_toArray, List.set_cons_succ, List.set_cons_zero]
            have hu_wm : Up we wm := by (repeat (first | with_reducible exact Up.refl _ | with_reducible refine Up.alloc ?_ _ | with_reducible refine Up.drew ?_ | with_reducible refine Up.drewN ?_ _ | with_reducible refine Up.setCell ?_ (by (try simp) <;> omega) _ | with_reducible assumption | with_reducible refine Up.trans ?_ (by assumption)))
            have hz_wm := Up.size hb_wm
            try simp at hz_wm
            go_wp2_with fail
            go_roundw
            case rel => exact ⟨j + 1, _, by omega, by go_num, hearS_ok HO.out, HI.out.hear, hME.out.up (by (repeat (first | with_reducible exact Up.refl _ | with_reducible refine Up.alloc ?_ _ | with_reducible refine Up.drew ?_ | with_reducible refine Up.drewN ?_ _ | with_reducible refine Up.setCell ?_ (by (try simp) <;> omega) _ | with_reducible assumption | with_reducible refine Up.trans ?_ (by assumption)))) hbe, hkw.up (by (repeat (first | with_reducible exact Up.refl _ | with_reducible refine Up.alloc ?_ _ | with_reducible refine Up.drew ?_ | with_reducible refine Up.drewN ?_ _ | with_reducible refine Up.setCell ?_ (by (try simp) <;> omega) _ | with_reducible assumption | with_reducible refine Up.trans ?_ (by assumption))))⟩
            case measure => simp [intOf]; omega
          · have hte := Lib.hid ((HG0.out k).trans ht)
            clear ht
            go_wp2_with fail
            refine (contains_any hq.out (by omega) hte.out).mono ?_
            rintro e wf ⟨rfl, rfl⟩
            go_wp2
            go_roundw
            case rel => exact ⟨j + 1, _, by omega, by go_num, hearS_ok HO.out, HI.out.hear, hME.out, hkw⟩
            case measure => simp [intOf]; omega
        · go_wp2_with fail
          refine (hear_at k (hM'.out.up ((Up.refl wr).alloc _) hbr) (by simp; omega) hk256 rfl).mono ?_
          rintro e we ⟨A, n, c, rfl, hn, hr, hf, hm, hke⟩
          rw [show hearE 254 = 0 from rfl]
          have hkw : Near b wd we := hk.trans (((Near.refl _ _).up ((Up.refl _).alloc _)).trans hke)
          have hME := Lib.hid hm
          have hHR := Lib.hid hr
          have hHN := Lib.hid hn
          have hHF := Lib.hid hf
          have hz1 : wr.heap.size < we.heap.size := by have := hke.size; simp at this; omega
          have hze := hke.size
          simp at hze
          have hbe : b < we.heap.size := by omega
          obtain ⟨yc, yf⟩ := hke.at_ wr.heap.size (by simp) (by omega)
          have hq := Lib.hid (hR1.out.held hkw (by omega) (by intro i hi; omega))
          clear hn hr hf hm
          cases ht : G 0 k
          · have hte := Lib.hid ((HG0.out k).trans ht)
            have htt := Lib.hid ht
            clear ht
            go_wp2_with fail
            refine (contains_any hq.out (by omega) hte.out).mono ?_
            rintro e wf ⟨rfl, rfl⟩
            obtain rfl : n = 0 := hHN.out.trans (by rw [off_refused (v := 254) HI.out rfl htt.out (by decide)]; rfl)
            go_wp2_with fail
            refine wp_region_mix (NS := []) [] rfl (by kernel_rfl) (by kernel_rfl) (by simp) (by simp) ?_
            repeat (first
              | (refine mix_skip rfl rfl ?_; simp only [Act.put, List.setIfInBounds_toArray, List.set_cons_succ, List.set_cons_zero])
              | (refine mix_q rfl rfl rfl (by kernel_rfl) rfl rfl rfl ?_
                 apply Exists.intro
                 refine ⟨fun Wm => ?_, ?_⟩
                 · simp only [fin]
                   repeat (first | (rintro _ ⟨gm, om, rfl, hgm, hcm⟩) | (intro vm hvm; obtain ⟨gm, om, cm, rfl, h2m, hxm, hgm, hcm, hdm⟩ := rsl_two hvm) | (rintro _ ⟨Am, nm, cm, rfl, hnm, hlm, hmm, hrm⟩))
                   intro K hK
                   go_wp2_with ((go_at_call 13; refine (on_at 0 k (hME.out.up (up_upOf _ _) hbe) (hearS_ok HO.out) (by omega) hk256 rfl rfl (still_off HI.out htt.out)).mono ?_; rintro e w' ⟨rfl, rfl⟩))
                   refine hK _ _ ?_ ?_ ?_
                   · (repeat (first | with_reducible exact Up.refl _ | with_reducible refine Up.alloc ?_ _ | with_reducible refine Up.drew ?_ | with_reducible refine Up.drewN ?_ _ | with_reducible refine Up.setCell ?_ (by (try simp) <;> omega) _ | with_reducible assumption | with_reducible refine Up.trans ?_ (by assumption)))
                   · rfl
                   · rfl
                 simp only [Act.put, List.setIfInBounds_toArray, List.set_cons_succ, List.set_cons_zero]))
            refine mix_nil ?_
            intro wm hb_wm
            simp only [fin]
            have hu_wm : Up we wm := by (repeat (first | with_reducible exact Up.refl _ | with_reducible refine Up.alloc ?_ _ | with_reducible refine Up.drew ?_ | with_reducible refine Up.drewN ?_ _ | with_reducible refine Up.setCell ?_ (by (try simp) <;> omega) _ | with_reducible assumption | with_reducible refine Up.trans ?_ (by assumption)))
            have hz_wm := Up.size hb_wm
            try simp at hz_wm
            go_wp2_with fail
            go_roundw
            case rel => exact ⟨j + 1, _, by omega, by go_num, hearS_ok HO.out, HI.out.hear, hME.out.up (by (repeat (first | with_reducible exact Up.refl _ | with_reducible refine Up.alloc ?_ _ | with_reducible refine Up.drew ?_ | with_reducible refine Up.drewN ?_ _ | with_reducible refine Up.setCell ?_ (by (try simp) <;> omega) _ | with_reducible assumption | with_reducible refine Up.trans ?_ (by assumption)))) hbe, hkw.up (by (repeat (first | with_reducible exact Up.refl _ | with_reducible refine Up.alloc ?_ _ | with_reducible refine Up.drew ?_ | with_reducible refine Up.drewN ?_ _ | with_reducible refine Up.setCell ?_ (by (try simp) <;> omega) _ | with_reducible assumption | with_reducible refine Up.trans ?_ (by assumption))))⟩
            case measure => simp [intOf]; omega
          · have hte := Lib.hid ((HG0.out k).trans ht)
            clear ht
            go_wp2_with fail
            refine (contains_any hq.out (by omega) hte.out).mono ?_
            rintro e wf ⟨rfl, rfl⟩
            go_wp2
            go_roundw
            case rel => exact ⟨j + 1, _, by omega, by go_num, hearS_ok HO.out, HI.out.hear, hME.out, hkw⟩
            case measure => simp [intOf]; omega
      · have hE : hearE v = 1 := if_neg hv
        have hv' := Lib.hid hv
        clear hv
        go_wp2_with fail
        refine (hear_at k (hM'.out.up ((Up.refl wr).alloc _) hbr) (by simp; omega) hk256 rfl).mono ?_
        rintro e we ⟨A, n, c, rfl, hn, hr, hf, hm, hke⟩
        rw [hE]
        have hME := Lib.hid hm
        have hbe : b < we.heap.size := by have := hke.size; simp at this; omega
        obtain ⟨yc, yf⟩ := hke.at_ wr.heap.size (by simp) (by omega)
        clear hn hr hf hm hE
        by_cases hv3 : 253 ≤ v
        all_goals
          go_wp2
          go_roundw
          case rel => exact ⟨j + 1, _, by omega, by go_num, hearS_ok HO.out, HI.out.hear, hME.out, hk.trans (((Near.refl _ _).up ((Up.refl _).alloc _)).trans hke)⟩
          case measure => simp [intOf]; omega
    · by_cases hlt : j < n3
      · have h60' : 60 ≤ j := by omega
        obtain ⟨b3, off, rfl, hb3⟩ := HR3.out.form (by omega)
        have hx : L[j]? = some (L[j]'(by have := HL.out; omega)) := List.getElem?_eq_getElem _
        have hcl : Reads wr w.heap.size 5 (some ⟨b3, off, none⟩) n3 (L.flatMap encOp) := (hL3.out.more (Nat.le_refl _)).held hk (by omega) (by intro i hi; omega)
        obtain ⟨x1, x2, x3, x4, x5⟩ := op_at hcl hx
        have hz3 : b3 < wr.heap.size := by have := hk.size; omega
        clear hx hcl
        clear h60
        go_wp2
        go_ret
        exact ⟨rfl, (hUd.keep hk (by intro i hi; omega)).alloc _⟩
      · clear h60
        go_wp2
        go_ret
        exact ⟨rfl, hUd.keep hk (by intro i hi; omega)⟩
end Go.Proofs.Ytmnepolfiipfcaa
