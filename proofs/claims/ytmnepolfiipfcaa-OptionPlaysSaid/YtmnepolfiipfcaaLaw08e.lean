/-
  The walk of law 08's OptionPlays. No condition.
-/
import Derived.Test.YtmnepolfiipfcaaLaw08d
namespace Go.Proofs.Ytmnepolfiipfcaa
open Go.RowKit
set_option linter.unusedVariables false
set_option linter.unusedSimpArgs false

/-- a slice of these words -/
def RMs (L : List (Int × Int)) (v : Value) (W : World) : Prop := ∃ A n c, v = .slice A n c ∧ n = L.length ∧ True ∧ True ∧ Reads W W.heap.size 2 A n (ms L)
theorem rms_up (L : List (Int × Int)) (v : Value) (W W' : World) (h : RMs L v W) (hu : Up W W') : RMs L v W' := by
  obtain ⟨A, n, c, h1, h2, _, _, h5⟩ := h
  exact ⟨A, n, c, h1, h2, trivial, trivial, h5.up hu⟩
theorem back_ms {A : Option Addr} {c : Nat} {L : List (Int × Int)} {w : World} (hr : Reads w w.heap.size 2 A L.length (ms L)) (h1 : L.length ≤ 1) :
    Calls Try.prog 27 #[.slice A L.length c] w fun e w' => ∃ A' c', e = .returned (.slice A' L.length c') ∧ RMs L (.slice A' L.length c') w' ∧ Up w w' := by
  refine (back_is A L.length c L w hr rfl h1).mono ?_
  rintro e w' ⟨A', c', rfl, h2, h3⟩
  exact ⟨A', c', rfl, ⟨A', _, c', rfl, rfl, trivial, trivial, h2⟩, h3⟩
theorem copy_own {A : Option Addr} {n c : Nat} {l : List Int} {w : World} (hr : Reads w w.heap.size 1 A n (bs l)) (hn : n ≤ 65536) :
    Calls Try.prog 22 #[.slice A n c] w fun e w' => ∃ A' c', e = .returned (.slice A' n c') ∧ Reads w' w'.heap.size 1 A' n (bs l) ∧ Up w w' := by
  refine (copy_any A n c l w hr (by omega)).mono ?_
  rintro e w' ⟨A', c', rfl, h1, h2, h3, h4⟩
  exact ⟨A', c', rfl, Reads.of_own h1, h4⟩
theorem rnew_at {A1 A2 : Option Addr} {n1 n2 c1 c2 : Nat} {l1 l2 : List Int} {w : World} (hr1 : Reads w w.heap.size 1 A1 n1 (bs l1)) (hr2 : Reads w w.heap.size 1 A2 n2 (bs l2)) (hn1 : n1 ≤ 65536) (hn2 : n2 ≤ 65536) (hw1 : ∀ x ∈ l1, 0 ≤ x ∧ x ≤ 255) (hw2 : ∀ x ∈ l2, 0 ≤ x ∧ x ≤ 255) :
    Calls Try.prog 23 #[.slice A1 n1 c1, .slice A2 n2 c2] w fun e w' => ∃ b, e = .returned (.pointer (some ⟨b, 0, none⟩)) ∧ w.heap.size ≤ b ∧ b < w'.heap.size ∧ RAt w' b (fun _ _ => 0) (agr l1 l2) ∧ Up w w' := by
  refine (rnew_any A1 A2 n1 n2 c1 c2 l1 l2 w hr1 hr2 hn1 hn2 hw1 hw2).mono ?_
  rintro e w' ⟨rfl, hm, hu⟩
  exact ⟨_, rfl, Nat.le_refl _, cell_lt (hm 0 0 (by omega) (by omega)).1.1, hm, hu⟩
set_option maxRecDepth 100000 in
set_option maxHeartbeats 6400000 in
theorem law_plays (A1 : Option Addr) (n1 c1 : Nat) (l1 : List Int) (A2 : Option Addr) (n2 c2 : Nat) (l2 : List Int) (A3 : Option Addr) (n3 c3 : Nat) (L : List OpT) (w : World)
    (hl1 : l1.length = n1) (hn1 : n1 ≤ c1) (hc1 : c1 ≤ maxLen) (hw1 : ∀ x ∈ l1, 0 ≤ x ∧ x ≤ 255) (hr1 : Reads w w.heap.size 1 A1 n1 (l1.map (Value.int .u8)))
    (hl2 : l2.length = n2) (hn2 : n2 ≤ c2) (hc2 : c2 ≤ maxLen) (hw2 : ∀ x ∈ l2, 0 ≤ x ∧ x ≤ 255) (hr2 : Reads w w.heap.size 1 A2 n2 (l2.map (Value.int .u8)))
    (hl3 : L.length = n3) (hn3 : n3 ≤ c3) (hc3 : c3 ≤ maxLen) (hw3 : ∀ x ∈ L, 0 ≤ x.2.1 ∧ x.2.1 ≤ 255 ∧ 0 ≤ x.2.2.1 ∧ x.2.2.1 ≤ 255 ∧ -9223372036854775808 ≤ x.2.2.2.1 ∧ x.2.2.2.1 ≤ 9223372036854775807) (hr3 : Reads w w.heap.size 5 A3 n3 (L.flatMap encOp)) :
    Calls Try.prog 7 #[.slice A1 n1 c1, .slice A2 n2 c2, .slice A3 n3 c3] w fun e w' => e = .returned (.bool true) ∧ Up w w' := by
  have hn3' : n3 ≤ 9223372036854775807 := by simp [maxLen] at hc3; omega
  have HR1 : Hid (Reads w w.heap.size 1 A1 n1 (bs l1)) := hr1
  have HR2 : Hid (Reads w w.heap.size 1 A2 n2 (bs l2)) := hr2
  have HR3 := Lib.hid hr3
  have HL := Lib.hid hl3
  clear hr1 hr2 hr3 hl1 hl2 hl3
  go_enter Try.func7, Try.ntmps7
  go_wp2_with fail
  refine (awake08 _).mono ?_
  rintro e wa ⟨rfl, ua⟩
  go_wp2_with fail
  refine (cut_own (HR1.out.up ua) hn1 hc1 20 (by omega) (by omega)).mono ?_
  rintro e wb ⟨B1, m1, d1, rfl, hm1, hs1, hf1, hd1, he1, ub⟩
  have HS1 := Lib.hid hs1
  clear hf1 hs1
  go_wp2_with fail
  refine (cut_own (HR2.out.up (ua.trans ub)) hn2 hc2 20 (by omega) (by omega)).mono ?_
  rintro e wc ⟨B2, m2, d2, rfl, hm2, hs2, hf2, hd2, he2, uc⟩
  have HS2 := Lib.hid hs2
  clear hf2 hs2
  have hk1 : ∀ x ∈ l1.take (Int.toNat 20), 0 ≤ x ∧ x ≤ 255 := fun x hx => hw1 x (List.mem_of_mem_take hx)
  have hk2 : ∀ x ∈ l2.take (Int.toNat 20), 0 ≤ x ∧ x ≤ 255 := fun x hx => hw2 x (List.mem_of_mem_take hx)
  generalize l1.take (Int.toNat 20) = k1 at *
  generalize l2.take (Int.toNat 20) = k2 at *
  have HK1 := Lib.hid hk1
  have HK2 := Lib.hid hk2
  clear hk1 hk2 hw1 hw2
  go_wp2_with fail
  refine (copy_own (HS1.out.up uc) (by omega)).mono ?_
  rintro e wd ⟨C1, f1, rfl, hq1, ud⟩
  have HQ1 := Lib.hid hq1
  clear hq1
  go_wp2_with fail
  refine (copy_own (HS2.out.up ud) (by omega)).mono ?_
  rintro e we ⟨C2, f2, rfl, hq2, ue⟩
  have HQ2 := Lib.hid hq2
  clear hq2
  go_wp2_with fail
  refine (new_at (HQ1.out.up ue) HQ2.out (by omega) (by omega) HK1.out HK2.out).mono ?_
  rintro e wf ⟨b, rfl, hb0, hb1, hm, uf⟩
  have HM := Lib.hid hm
  clear hm
  go_wp2_with fail
  refine (rnew_at (HS1.out.up (uc.trans (ud.trans (ue.trans uf)))) (HS2.out.up (ud.trans (ue.trans uf))) (by omega) (by omega) HK1.out HK2.out).mono ?_
  rintro e wg ⟨x, rfl, hx0, hx1, hx, ug⟩
  obtain ⟨G, hG⟩ : ∃ G, agr k1 k2 = G := ⟨_, rfl⟩
  have hmg := HM.out.up ug hb1
  rw [hG] at hx hmg
  have HMG := Lib.hid hmg
  have HX := Lib.hid hx
  have hW3 := Lib.hid hw3
  have hUg : Up w wg := ua.trans (ub.trans (uc.trans (ud.trans (ue.trans (uf.trans ug)))))
  have hL3 : Hid (Reads wg w.heap.size 5 A3 n3 (L.flatMap encOp)) := HR3.out.below hUg
  have zf := uf.size
  have zg := ug.size
  have zw : w.heap.size ≤ we.heap.size := (ua.trans (ub.trans (uc.trans (ud.trans ue)))).size
  have hbg : b < wg.heap.size := by omega
  have hbx : b ≠ x := by omega
  clear hG hx hmg hw3 HR1 HR2 HS1 HS2 HQ1 HQ2 HM
  go_wp2_with fail
  go_loopw [31] (fun i wr => ∃ (j : Nat) (S : Nat → Nat → Int), j ≤ n3 ∧ i = .int .i64 (j : Int) ∧ okS S ∧ MAt wr b S G ∧ RAt wr x S G ∧ Keep (fun k => k = b ∨ k = x) wg wr) (fun i _ => n3 - (intOf i).toNat)
  case atStart => exact ⟨0, _, by omega, rfl, okS_zero, HMG.out, HX.out, Keep.refl _ _⟩
  case round =>
    obtain ⟨j, S, hj, rfl, hok, hm, hxx, hk⟩ := hrel
    have HO := Lib.hid hok
    have hM' := Lib.hid hm
    have hX' := Lib.hid hxx
    have hzr := hk.size
    clear hok hm hxx
    by_cases hlt : j < n3
    · obtain ⟨b3, off, rfl, hb3⟩ := HR3.out.form (by omega)
      have hx : L[j]? = some (L[j]'(by have := HL.out; omega)) := List.getElem?_eq_getElem _
      have hwx := hW3.out _ (List.mem_of_getElem? hx)
      have hcl : Reads wr w.heap.size 5 (some ⟨b3, off, none⟩) n3 (L.flatMap encOp) := (hL3.out.more (Nat.le_refl _)).held hk (by omega) (by intro i hi; omega)
      obtain ⟨x1, x2, x3, x4, x5⟩ := op_at hcl hx
      have hz3 : b3 < wr.heap.size := by omega
      by_cases h60 : j < 60
      · generalize L[j]'(by have := HL.out; omega) = y at x1 x2 x3 x4 x5 hwx
        obtain ⟨hh, v, ko, sd, on⟩ := y
        obtain ⟨hv0, hv1, hk0, hk1, -, -⟩ := hwx
        simp only at x1 x2 x3 x4 x5 hv0 hv1 hk0 hk1
        obtain ⟨k, hk256, rfl⟩ := byte_nat ⟨hk0, hk1⟩
        clear hx hcl hk0 hk1
        have hbr : b < wr.heap.size := by omega
        have hxr : x < wr.heap.size := by omega
        cases hh
        · go_wp2_with fail
          refine (ask_at k (hM'.out.up ((Up.refl wr).alloc _) hbr) (by simp; omega) hk256 rfl).mono ?_
          rintro e wi ⟨A, n, c, rfl, hn, hr, hf, hm1, hke⟩
          have ub1 : Up wr (wr.alloc (.cells #[.bool false, .int .u8 v, .int .u8 (k : Int), .int .i64 sd, .bool on] 29)) := (Up.refl wr).alloc _
          have hzi := hke.size
          simp at hzi
          have hx1z : x < wi.heap.size := by omega
          have hb1z : b < wi.heap.size := by omega
          have hzo : wr.heap.size < wi.heap.size := by omega
          have hX1 : RAt wi x S G := ((hX'.out.up ub1 hxr).kept hke (by simp; omega) (by omega))
          obtain ⟨yc, yf⟩ := hke.at_ wr.heap.size (by simp) (by omega)
          obtain ⟨S', hS'⟩ : ∃ S', askS sd k on S = S' := ⟨_, rfl⟩
          obtain ⟨Lw, hLw⟩ : ∃ Lw, askL sd k on S = Lw := ⟨_, rfl⟩
          obtain ⟨E, hE⟩ : ∃ E, askE sd k on S = E := ⟨_, rfl⟩
          have hlen : Lw.length ≤ 1 := by rw [← hLw]; exact askL_len sd k on S
          have hok' : okS S' := by rw [← hS']; exact askS_ok HO.out
          rw [hS'] at hm1
          rw [hLw] at hn hr
          rw [hE]
          have c2 := rask_at (i := sd) (t := on) k hX1 HO.out hx1z hk256 rfl
          rw [hS', hLw, hE] at c2
          have HC2 := Lib.hid c2
          have HOK' := Lib.hid hok'
          have HM1 := Lib.hid hm1
          have HRr := Lib.hid hr
          obtain rfl : n = Lw.length := hn
          have hfA : ∀ p, A = some p → p.block ≠ x := fun p hp => by have := hf p hp; simp at this; omega
          have HFA := Lib.hid hfA
          clear hfA
          clear hr hm1 hf hok' hS' hLw hE hX1 c2
          have o0 : wi.cell? ⟨wr.heap.size, 0, none⟩ = some (.bool false) := by rw [yc]; simp
          have o1 : wi.cell? ⟨wr.heap.size, 1, none⟩ = some (.int .u8 v) := by rw [yc]; simp
          have o2 : wi.cell? ⟨wr.heap.size, 2, none⟩ = some (.int .u8 (k : Int)) := by rw [yc]; simp
          have o3 : wi.cell? ⟨wr.heap.size, 3, none⟩ = some (.int .i64 sd) := by rw [yc]; simp
          have o4 : wi.cell? ⟨wr.heap.size, 4, none⟩ = some (.bool on) := by rw [yc]; simp
          clear yc yf
          go_wp2_with fail
          refine HC2.out.mono ?_
          rintro e wj ⟨Ar, nr, cr, rfl, hnr, hrr, hfr, hx1', hkr⟩
          have hzj := hkr.size
          have HMj := Lib.hid (HM1.out.kept hkr hb1z hbx)
          have HXj := Lib.hid hx1'
          have hkall : Keep (fun k => k = b ∨ k = x) wg wj := ((hk.alloc _).trans (hke.mono (fun _ h => .inl h))).trans (hkr.mono (fun _ h => .inr h))
          obtain rfl : nr = Lw.length := hnr
          have HRj := Lib.hid hrr
          have HRA := Lib.hid (HRr.out.kept hkr (fun p hp => HFA.out p hp))
          obtain ⟨yc, yf⟩ := hkr.at_ wr.heap.size hzo (by omega)
          have o2' : wj.cell? ⟨wr.heap.size, 2, none⟩ = some (.int .u8 (k : Int)) := by rw [yc]; exact o2
          obtain ⟨⟨s0, -⟩, -, -⟩ := hx1' 0 k (by omega) hk256
          obtain ⟨⟨s1, -⟩, -, -⟩ := hx1' 1 k (by omega) hk256
          simp only [Nat.mul_zero, Nat.zero_add, Nat.mul_one] at s0 s1
          obtain ⟨v0, hv0e⟩ : ∃ v0, S' 0 k = v0 := ⟨_, rfl⟩
          obtain ⟨v1, hv1e⟩ : ∃ v1, S' 1 k = v1 := ⟨_, rfl⟩
          rw [hv0e] at s0
          rw [hv1e] at s1
          have HV0 := Lib.hid hv0e
          have HV1 := Lib.hid hv1e
          have hzw : wr.heap.size < wj.heap.size := by omega
          have hzx : x < wj.heap.size := by omega
          have hzb : b < wj.heap.size := by omega
          have hk256' : (k : Int) < 256 := by omega
          have hli : ((Lw.length : Nat) : Int) ≤ 1 := by omega
          have hlb : decide ((1 : Int) < (Lw.length : Int)) = false := by simp; omega
          have hlb' : decide (1 < Lw.length) = false := by simp; omega
          clear hrr hfr hx1' yc yf o0 o1 o2 o3 o4 hv0e hv1e
          go_wp2_with fail
          refine wp_region_mix (NS := [(81, RMs Lw)]) [81] rfl (by kernel_rfl) (by kernel_rfl) (by simp) (by intro p hp; simp only [List.mem_cons, List.mem_nil_iff, or_false] at hp; rcases hp with rfl; all_goals (first | exact rsl_up _ | exact rptr_up _ | exact rms_up _)) ?_
          repeat (first
            | (refine mix_skip rfl rfl ?_; simp only [Act.put, List.setIfInBounds_toArray, List.set_cons_succ, List.set_cons_zero])
            | (refine mix_q rfl rfl rfl (by kernel_rfl) rfl rfl rfl ?_
               apply Exists.intro
               refine ⟨fun Wm => ?_, ?_⟩
               · simp only [fin]
                 repeat (rintro (vm : Value) hvm; first | (obtain ⟨gm, om, rfl, hgm, hcm⟩ := hvm) | (obtain ⟨gm, om, cm, rfl, h2m, hxm, hgm, hcm, hdm⟩ := rsl_two hvm) | (obtain ⟨Am, nm, cm, rfl, hnm, hlm, hmm, hrm⟩ := hvm; (try simp only [List.length_cons, List.length_nil, Nat.zero_add, Nat.reduceAdd] at hnm); subst hnm))
                 intro K hK
                 go_wp2_with ((first | (go_at_call 27; refine (back_ms (HRA.out.up (up_upOf _ _)) hlen).mono ?_; rintro e w' ⟨Ax, cx, rfl, hRx, hux⟩) | (go_at_call 26; refine (eqm_yes _ _ _ _ _ Lw _ (by assumption) (HRj.out.up (up_upOf _ _)) rfl hlen).mono ?_; rintro e w' ⟨rfl, hux⟩) | (go_at_call_of 19 (Value.int IntKind.i64 0); refine (state_at 0 k (HMj.out.up (up_upOf _ _) hzb) HOK'.out (by omega) hk256 rfl rfl HV0.out).mono ?_; rintro e w' ⟨rfl, rfl⟩) | (go_at_call_of 19 (Value.int IntKind.i64 1); refine (state_at 1 k (HMj.out.up (up_upOf _ _) hzb) HOK'.out (by omega) hk256 rfl rfl HV1.out).mono ?_; rintro e w' ⟨rfl, rfl⟩)))
                 refine hK _ _ ?_ ?_ ?_
                 · (repeat (first | with_reducible exact Up.refl _ | with_reducible refine Up.alloc ?_ _ | with_reducible refine Up.drew ?_ | with_reducible refine Up.drewN ?_ _ | with_reducible refine Up.setCell ?_ (by (try simp) <;> omega) _ | with_reducible assumption | with_reducible refine Up.trans ?_ (by assumption)))
                 · rfl
                 · rfl
               simp only [Act.put, List.setIfInBounds_toArray, List.set_cons_succ, List.set_cons_zero])
            | (refine mix_n rfl rfl rfl (by kernel_rfl) rfl rfl rfl ?_ ?_
               · intro Wm
                 simp only [fin]
                 repeat (rintro (vm : Value) hvm; first | (obtain ⟨gm, om, rfl, hgm, hcm⟩ := hvm) | (obtain ⟨gm, om, cm, rfl, h2m, hxm, hgm, hcm, hdm⟩ := rsl_two hvm) | (obtain ⟨Am, nm, cm, rfl, hnm, hlm, hmm, hrm⟩ := hvm; (try simp only [List.length_cons, List.length_nil, Nat.zero_add, Nat.reduceAdd] at hnm); subst hnm))
                 intro K hK
                 go_wp2_with ((first | (go_at_call 27; refine (back_ms (HRA.out.up (up_upOf _ _)) hlen).mono ?_; rintro e w' ⟨Ax, cx, rfl, hRx, hux⟩) | (go_at_call 26; refine (eqm_yes _ _ _ _ _ Lw _ (by assumption) (HRj.out.up (up_upOf _ _)) rfl hlen).mono ?_; rintro e w' ⟨rfl, hux⟩) | (go_at_call_of 19 (Value.int IntKind.i64 0); refine (state_at 0 k (HMj.out.up (up_upOf _ _) hzb) HOK'.out (by omega) hk256 rfl rfl HV0.out).mono ?_; rintro e w' ⟨rfl, rfl⟩) | (go_at_call_of 19 (Value.int IntKind.i64 1); refine (state_at 1 k (HMj.out.up (up_upOf _ _) hzb) HOK'.out (by omega) hk256 rfl rfl HV1.out).mono ?_; rintro e w' ⟨rfl, rfl⟩)))
                 apply hK
                 · (repeat (first | with_reducible exact Up.refl _ | with_reducible refine Up.alloc ?_ _ | with_reducible refine Up.drew ?_ | with_reducible refine Up.drewN ?_ _ | with_reducible refine Up.setCell ?_ (by (try simp) <;> omega) _ | with_reducible assumption | with_reducible refine Up.trans ?_ (by assumption)))
                 · rfl
                 · rfl
                 · first | exact rsl_lit _ _ _ _ _ _ rfl rfl (by simp [maxLen]) rfl | exact ⟨_, _, rfl, hgm, hcm⟩ | exact ⟨_, _, rfl, hgm, hdm⟩ | assumption
               simp only [Act.put, List.setIfInBounds_toArray, List.set_cons_succ, List.set_cons_zero]))
          refine mix_nil ?_
          intro wm hb_wm
          simp only [fin]
          intro vm_wm_0 hvm_wm_0
          simp only [Act.put, List.setIfInBounds_toArray, List.set_cons_succ, List.set_cons_zero]
          have hu_wm : Up wj wm := by (repeat (first | with_reducible exact Up.refl _ | with_reducible refine Up.alloc ?_ _ | with_reducible refine Up.drew ?_ | with_reducible refine Up.drewN ?_ _ | with_reducible refine Up.setCell ?_ (by (try simp) <;> omega) _ | with_reducible assumption | with_reducible refine Up.trans ?_ (by assumption)))
          have hz_wm := Up.size hb_wm
          try simp at hz_wm
          go_wp2_with fail
          go_roundw
          case rel => exact ⟨j + 1, S', by omega, by go_num, HOK'.out, HMj.out.up hu_wm hzb, HXj.out.up hu_wm hzx, hkall.up hu_wm⟩
          case measure => simp [intOf]; omega
        · go_wp2_with fail
          refine (hear_at k (hM'.out.up ((Up.refl wr).alloc _) hbr) (by simp; omega) hk256 rfl).mono ?_
          rintro e wi ⟨A, n, c, rfl, hn, hr, hf, hm1, hke⟩
          have ub1 : Up wr (wr.alloc (.cells #[.bool true, .int .u8 v, .int .u8 (k : Int), .int .i64 sd, .bool on] 29)) := (Up.refl wr).alloc _
          have hzi := hke.size
          simp at hzi
          have hx1z : x < wi.heap.size := by omega
          have hb1z : b < wi.heap.size := by omega
          have hzo : wr.heap.size < wi.heap.size := by omega
          have hX1 : RAt wi x S G := ((hX'.out.up ub1 hxr).kept hke (by simp; omega) (by omega))
          obtain ⟨yc, yf⟩ := hke.at_ wr.heap.size (by simp) (by omega)
          obtain ⟨S', hS'⟩ : ∃ S', hearS v k S G = S' := ⟨_, rfl⟩
          obtain ⟨Lw, hLw⟩ : ∃ Lw, hearL v k S G = Lw := ⟨_, rfl⟩
          obtain ⟨E, hE⟩ : ∃ E, hearE v = E := ⟨_, rfl⟩
          have hlen : Lw.length ≤ 1 := by rw [← hLw]; exact hearL_len v k S G
          have hok' : okS S' := by rw [← hS']; exact hearS_ok HO.out
          rw [hS'] at hm1
          rw [hLw] at hn hr
          rw [hE]
          have c2 := rhear_at (v := v) k hX1 HO.out hx1z hk256 hv0 hv1 rfl
          rw [hS', hLw, hE] at c2
          have HC2 := Lib.hid c2
          have HOK' := Lib.hid hok'
          have HM1 := Lib.hid hm1
          have HRr := Lib.hid hr
          obtain rfl : n = Lw.length := hn
          have hfA : ∀ p, A = some p → p.block ≠ x := fun p hp => by have := hf p hp; simp at this; omega
          have HFA := Lib.hid hfA
          clear hfA
          clear hr hm1 hf hok' hS' hLw hE hX1 c2
          have o0 : wi.cell? ⟨wr.heap.size, 0, none⟩ = some (.bool true) := by rw [yc]; simp
          have o1 : wi.cell? ⟨wr.heap.size, 1, none⟩ = some (.int .u8 v) := by rw [yc]; simp
          have o2 : wi.cell? ⟨wr.heap.size, 2, none⟩ = some (.int .u8 (k : Int)) := by rw [yc]; simp
          have o3 : wi.cell? ⟨wr.heap.size, 3, none⟩ = some (.int .i64 sd) := by rw [yc]; simp
          have o4 : wi.cell? ⟨wr.heap.size, 4, none⟩ = some (.bool on) := by rw [yc]; simp
          clear yc yf
          go_wp2_with fail
          refine HC2.out.mono ?_
          rintro e wj ⟨Ar, nr, cr, rfl, hnr, hrr, hfr, hx1', hkr⟩
          have hzj := hkr.size
          have HMj := Lib.hid (HM1.out.kept hkr hb1z hbx)
          have HXj := Lib.hid hx1'
          have hkall : Keep (fun k => k = b ∨ k = x) wg wj := ((hk.alloc _).trans (hke.mono (fun _ h => .inl h))).trans (hkr.mono (fun _ h => .inr h))
          obtain rfl : nr = Lw.length := hnr
          have HRj := Lib.hid hrr
          have HRA := Lib.hid (HRr.out.kept hkr (fun p hp => HFA.out p hp))
          obtain ⟨yc, yf⟩ := hkr.at_ wr.heap.size hzo (by omega)
          have o2' : wj.cell? ⟨wr.heap.size, 2, none⟩ = some (.int .u8 (k : Int)) := by rw [yc]; exact o2
          obtain ⟨⟨s0, -⟩, -, -⟩ := hx1' 0 k (by omega) hk256
          obtain ⟨⟨s1, -⟩, -, -⟩ := hx1' 1 k (by omega) hk256
          simp only [Nat.mul_zero, Nat.zero_add, Nat.mul_one] at s0 s1
          obtain ⟨v0, hv0e⟩ : ∃ v0, S' 0 k = v0 := ⟨_, rfl⟩
          obtain ⟨v1, hv1e⟩ : ∃ v1, S' 1 k = v1 := ⟨_, rfl⟩
          rw [hv0e] at s0
          rw [hv1e] at s1
          have HV0 := Lib.hid hv0e
          have HV1 := Lib.hid hv1e
          have hzw : wr.heap.size < wj.heap.size := by omega
          have hzx : x < wj.heap.size := by omega
          have hzb : b < wj.heap.size := by omega
          have hk256' : (k : Int) < 256 := by omega
          have hli : ((Lw.length : Nat) : Int) ≤ 1 := by omega
          have hlb : decide ((1 : Int) < (Lw.length : Int)) = false := by simp; omega
          have hlb' : decide (1 < Lw.length) = false := by simp; omega
          clear hrr hfr hx1' yc yf o0 o1 o2 o3 o4 hv0e hv1e
          go_wp2_with fail
          refine wp_region_mix (NS := [(81, RMs Lw)]) [81] rfl (by kernel_rfl) (by kernel_rfl) (by simp) (by intro p hp; simp only [List.mem_cons, List.mem_nil_iff, or_false] at hp; rcases hp with rfl; all_goals (first | exact rsl_up _ | exact rptr_up _ | exact rms_up _)) ?_
          repeat (first
            | (refine mix_skip rfl rfl ?_; simp only [Act.put, List.setIfInBounds_toArray, List.set_cons_succ, List.set_cons_zero])
            | (refine mix_q rfl rfl rfl (by kernel_rfl) rfl rfl rfl ?_
               apply Exists.intro
               refine ⟨fun Wm => ?_, ?_⟩
               · simp only [fin]
                 repeat (rintro (vm : Value) hvm; first | (obtain ⟨gm, om, rfl, hgm, hcm⟩ := hvm) | (obtain ⟨gm, om, cm, rfl, h2m, hxm, hgm, hcm, hdm⟩ := rsl_two hvm) | (obtain ⟨Am, nm, cm, rfl, hnm, hlm, hmm, hrm⟩ := hvm; (try simp only [List.length_cons, List.length_nil, Nat.zero_add, Nat.reduceAdd] at hnm); subst hnm))
                 intro K hK
                 go_wp2_with ((first | (go_at_call 27; refine (back_ms (HRA.out.up (up_upOf _ _)) hlen).mono ?_; rintro e w' ⟨Ax, cx, rfl, hRx, hux⟩) | (go_at_call 26; refine (eqm_yes _ _ _ _ _ Lw _ (by assumption) (HRj.out.up (up_upOf _ _)) rfl hlen).mono ?_; rintro e w' ⟨rfl, hux⟩) | (go_at_call_of 19 (Value.int IntKind.i64 0); refine (state_at 0 k (HMj.out.up (up_upOf _ _) hzb) HOK'.out (by omega) hk256 rfl rfl HV0.out).mono ?_; rintro e w' ⟨rfl, rfl⟩) | (go_at_call_of 19 (Value.int IntKind.i64 1); refine (state_at 1 k (HMj.out.up (up_upOf _ _) hzb) HOK'.out (by omega) hk256 rfl rfl HV1.out).mono ?_; rintro e w' ⟨rfl, rfl⟩)))
                 refine hK _ _ ?_ ?_ ?_
                 · (repeat (first | with_reducible exact Up.refl _ | with_reducible refine Up.alloc ?_ _ | with_reducible refine Up.drew ?_ | with_reducible refine Up.drewN ?_ _ | with_reducible refine Up.setCell ?_ (by (try simp) <;> omega) _ | with_reducible assumption | with_reducible refine Up.trans ?_ (by assumption)))
                 · rfl
                 · rfl
               simp only [Act.put, List.setIfInBounds_toArray, List.set_cons_succ, List.set_cons_zero])
            | (refine mix_n rfl rfl rfl (by kernel_rfl) rfl rfl rfl ?_ ?_
               · intro Wm
                 simp only [fin]
                 repeat (rintro (vm : Value) hvm; first | (obtain ⟨gm, om, rfl, hgm, hcm⟩ := hvm) | (obtain ⟨gm, om, cm, rfl, h2m, hxm, hgm, hcm, hdm⟩ := rsl_two hvm) | (obtain ⟨Am, nm, cm, rfl, hnm, hlm, hmm, hrm⟩ := hvm; (try simp only [List.length_cons, List.length_nil, Nat.zero_add, Nat.reduceAdd] at hnm); subst hnm))
                 intro K hK
                 go_wp2_with ((first | (go_at_call 27; refine (back_ms (HRA.out.up (up_upOf _ _)) hlen).mono ?_; rintro e w' ⟨Ax, cx, rfl, hRx, hux⟩) | (go_at_call 26; refine (eqm_yes _ _ _ _ _ Lw _ (by assumption) (HRj.out.up (up_upOf _ _)) rfl hlen).mono ?_; rintro e w' ⟨rfl, hux⟩) | (go_at_call_of 19 (Value.int IntKind.i64 0); refine (state_at 0 k (HMj.out.up (up_upOf _ _) hzb) HOK'.out (by omega) hk256 rfl rfl HV0.out).mono ?_; rintro e w' ⟨rfl, rfl⟩) | (go_at_call_of 19 (Value.int IntKind.i64 1); refine (state_at 1 k (HMj.out.up (up_upOf _ _) hzb) HOK'.out (by omega) hk256 rfl rfl HV1.out).mono ?_; rintro e w' ⟨rfl, rfl⟩)))
                 apply hK
                 · (repeat (first | with_reducible exact Up.refl _ | with_reducible refine Up.alloc ?_ _ | with_reducible refine Up.drew ?_ | with_reducible refine Up.drewN ?_ _ | with_reducible refine Up.setCell ?_ (by (try simp) <;> omega) _ | with_reducible assumption | with_reducible refine Up.trans ?_ (by assumption)))
                 · rfl
                 · rfl
                 · first | exact rsl_lit _ _ _ _ _ _ rfl rfl (by simp [maxLen]) rfl | exact ⟨_, _, rfl, hgm, hcm⟩ | exact ⟨_, _, rfl, hgm, hdm⟩ | assumption
               simp only [Act.put, List.setIfInBounds_toArray, List.set_cons_succ, List.set_cons_zero]))
          refine mix_nil ?_
          intro wm hb_wm
          simp only [fin]
          intro vm_wm_0 hvm_wm_0
          simp only [Act.put, List.setIfInBounds_toArray, List.set_cons_succ, List.set_cons_zero]
          have hu_wm : Up wj wm := by (repeat (first | with_reducible exact Up.refl _ | with_reducible refine Up.alloc ?_ _ | with_reducible refine Up.drew ?_ | with_reducible refine Up.drewN ?_ _ | with_reducible refine Up.setCell ?_ (by (try simp) <;> omega) _ | with_reducible assumption | with_reducible refine Up.trans ?_ (by assumption)))
          have hz_wm := Up.size hb_wm
          try simp at hz_wm
          go_wp2_with fail
          go_roundw
          case rel => exact ⟨j + 1, S', by omega, by go_num, HOK'.out, HMj.out.up hu_wm hzb, HXj.out.up hu_wm hzx, hkall.up hu_wm⟩
          case measure => simp [intOf]; omega
      · have h60' : 60 ≤ j := by omega
        clear h60 hx hcl hwx
        go_wp2_with fail
        refine (same08 b x S G G _ (hM'.out.up ((Up.refl wr).alloc _) (by omega)) (hX'.out.up ((Up.refl wr).alloc _) (by omega)) HO.out (by simp; omega) (by simp; omega)).mono ?_
        rintro e wz ⟨rfl, uz⟩
        go_wp2_with fail
        go_ret
        exact ⟨rfl, ((hUg.keep hk (by intro i hi; omega)).alloc _).trans uz⟩
    · go_wp2_with fail
      refine (same08 b x S G G _ hM'.out hX'.out HO.out (by omega) (by omega)).mono ?_
      rintro e wz ⟨rfl, uz⟩
      go_wp2_with fail
      go_ret
      exact ⟨rfl, (hUg.keep hk (by intro i hi; omega)).trans uz⟩
end Go.Proofs.Ytmnepolfiipfcaa

