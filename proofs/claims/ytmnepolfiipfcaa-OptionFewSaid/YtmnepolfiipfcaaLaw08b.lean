/-
  The walk of law 08's OptionFew. No condition.
-/
import Derived.Test.YtmnepolfiipfcaaOpt8
namespace Go.Proofs.Ytmnepolfiipfcaa
open Go.RowKit
set_option linter.unusedVariables false
set_option linter.unusedSimpArgs false

def nums0 : Array Value := (List.replicate 256 (Value.int .i64 0)).toArray
theorem zero_nums (w : World) : (zeroValue 39).run Try.prog w = .ok (.agg nums0) w := by
  obtain ⟨i, hi, hz⟩ : ∃ i, Try.prog.info? 39 = some i ∧ i.zero = some (.agg nums0) := by
    have h : (Try.prog.info? 39).bind (·.zero) = some (.agg nums0) := by kernel_rfl
    cases hi : Try.prog.info? 39 with
    | none => rw [hi] at h; cases h
    | some i => exact ⟨i, rfl, by rw [hi] at h; exact h⟩
  simp [zeroValue, typeInfo, hi, hz]
theorem nums_new (w : World) : NumsAt (w.alloc (.cells nums0 39)) w.heap.size (fun _ => 0) := by
  intro o ho
  refine ⟨?_, by simp⟩
  rw [World.cell?_alloc_new]
  exact (List.getElem?_toArray ..).trans (by rw [List.getElem?_replicate, if_pos ho])
theorem nums_two (w : World) : NumsAt ((w.alloc (.cells nums0 39)).alloc (.cells nums0 39)) w.heap.size (fun _ => 0) ∧ NumsAt ((w.alloc (.cells nums0 39)).alloc (.cells nums0 39)) (w.heap.size + 1) (fun _ => 0) := by
  refine ⟨(nums_new w).kept (E := fun _ => False) (Keep.of_up ((Up.refl _).alloc _)) (by simp) (by simp), ?_⟩
  have := nums_new (w.alloc (.cells nums0 39))
  simpa using this

set_option maxRecDepth 100000 in
set_option maxHeartbeats 6400000 in
theorem law_few (A1 : Option Addr) (n1 c1 : Nat) (l1 : List Int) (A2 : Option Addr) (n2 c2 : Nat) (l2 : List Int) (A3 : Option Addr) (n3 c3 : Nat) (L : List OpT) (w : World)
    (hl1 : l1.length = n1) (hn1 : n1 ≤ c1) (hc1 : c1 ≤ maxLen) (hw1 : ∀ x ∈ l1, 0 ≤ x ∧ x ≤ 255) (hr1 : Reads w w.heap.size 1 A1 n1 (l1.map (Value.int .u8)))
    (hl2 : l2.length = n2) (hn2 : n2 ≤ c2) (hc2 : c2 ≤ maxLen) (hw2 : ∀ x ∈ l2, 0 ≤ x ∧ x ≤ 255) (hr2 : Reads w w.heap.size 1 A2 n2 (l2.map (Value.int .u8)))
    (hl3 : L.length = n3) (hn3 : n3 ≤ c3) (hc3 : c3 ≤ maxLen) (hw3 : ∀ x ∈ L, 0 ≤ x.2.1 ∧ x.2.1 ≤ 255 ∧ 0 ≤ x.2.2.1 ∧ x.2.2.1 ≤ 255 ∧ -9223372036854775808 ≤ x.2.2.2.1 ∧ x.2.2.2.1 ≤ 9223372036854775807) (hr3 : Reads w w.heap.size 5 A3 n3 (L.flatMap encOp)) :
    Calls Try.prog 4 #[.slice A1 n1 c1, .slice A2 n2 c2, .slice A3 n3 c3] w fun e w' => e = .returned (.bool true) ∧ Up w w' := by
  have hn3' : n3 ≤ 9223372036854775807 := by simp [maxLen] at hc3; omega
  have HR1 : Hid (Reads w w.heap.size 1 A1 n1 (bs l1)) := hr1
  have HR2 : Hid (Reads w w.heap.size 1 A2 n2 (bs l2)) := hr2
  have HR3 := Lib.hid hr3
  have HL := Lib.hid hl3
  clear hr1 hr2 hr3 hl1 hl2 hl3
  go_enter Try.func4, Try.ntmps4
  go_wp2_with fail
  refine (awake08 _).mono ?_
  rintro e wa ⟨rfl, ua⟩
  go_wp2_with fail
  refine (cut_own (HR1.out.up ua) hn1 hc1 20 (by omega) (by omega)).mono ?_
  rintro e wb ⟨B1, m1, d1, rfl, hm1, hs1, hf1, hd1, he1, ub⟩
  have hs1' := Lib.hid hs1
  clear hf1 hs1
  go_wp2_with fail
  refine (cut_own (HR2.out.up (ua.trans ub)) hn2 hc2 20 (by omega) (by omega)).mono ?_
  rintro e wc ⟨B2, m2, d2, rfl, hm2, hs2, hf2, hd2, he2, uc⟩
  have hs1 := hs1'.out.up uc
  clear hf2 hs1'
  go_wp2_with fail
  refine (new_at hs1 hs2 (by omega) (by omega) (fun x hx => hw1 x (List.mem_of_mem_take hx)) (fun x hx => hw2 x (List.mem_of_mem_take hx))).mono ?_
  rintro e wd ⟨b, rfl, hb0, hb1, hm, ud⟩
  clear hs1 hs2
  generalize agr _ _ = G at hm
  go_wp2_with fail
  rw [zero_nums]
  go_wp2_with fail
  rw [zero_nums]
  go_wp2_with fail
  obtain ⟨hH, hD⟩ := nums_two wd
  have hue : Up wd ((wd.alloc (.cells nums0 39)).alloc (.cells nums0 39)) := ((Up.refl _).alloc _).alloc _
  have hsz : ((wd.alloc (.cells nums0 39)).alloc (.cells nums0 39)).heap.size = wd.heap.size + 2 := by simp
  generalize ((wd.alloc (.cells nums0 39)).alloc (.cells nums0 39)) = we at *
  have hW3 := Lib.hid hw3
  have hM := Lib.hid (hm.up hue hb1)
  have hUd : Up w we := by (repeat (first | with_reducible exact Up.refl _ | with_reducible refine Up.alloc ?_ _ | with_reducible refine Up.drew ?_ | with_reducible refine Up.drewN ?_ _ | with_reducible refine Up.setCell ?_ (by (try simp) <;> omega) _ | with_reducible assumption | with_reducible refine Up.trans ?_ (by assumption)))
  have hL3 : Hid (Reads we w.heap.size 5 A3 n3 (L.flatMap encOp)) := HR3.out.below hUd
  have hZ := Lib.hid hsz
  have hz1 : wd.heap.size + 2 ≤ we.heap.size := by omega
  have zc : w.heap.size ≤ wc.heap.size := by have := (ua.trans (ub.trans uc)).size; exact this
  clear hm hw3 HR1 HR2 hw1 hw2 hsz
  have hHH := Lib.hid hH
  have hDD := Lib.hid hD
  clear hH hD
  obtain ⟨bd, hbd⟩ : ∃ bd, wd.heap.size = bd := ⟨_, rfl⟩
  rw [hbd] at hHH hDD hz1 hb1 hZ
  rw [hbd]
  have hB := Lib.hid hbd
  have hbw : b < bd := hb1
  have hww : w.heap.size ≤ bd := by have := hB.out; omega
  clear hbd
  --LOOP
  go_loopw [24] (fun i wr => ∃ (j : Nat) (S : Nat → Nat → Int) (H D : Nat → Int), j ≤ n3 ∧ j ≤ 60 ∧ i = .int .i64 (j : Int) ∧ MAt wr b S G ∧ NumsAt wr bd H ∧ NumsAt wr (bd + 1) D ∧ (∀ o, 0 ≤ D o ∧ D o ≤ H o ∧ H o ≤ j) ∧ Keep (fun k => k = b ∨ k = bd ∨ k = bd + 1) we wr) (fun i _ => n3 - (intOf i).toNat)
  case atStart => exact ⟨0, _, _, _, by omega, by omega, rfl, hM.out, hHH.out, hDD.out, fun _ => by simp, Keep.refl _ _⟩
  case round =>
    obtain ⟨j, S, H, D, hj, hj60', rfl, hm, hH, hD, hd, hk⟩ := hrel
    have hzr := hk.size
    have HDL := Lib.hid hd
    clear hd
    by_cases hlt : j < n3
    · obtain ⟨b3, off, rfl, hb3⟩ := HR3.out.form (by omega)
      have hx : L[j]? = some (L[j]'(by have := HL.out; omega)) := List.getElem?_eq_getElem _
      have hwx := hW3.out _ (List.mem_of_getElem? hx)
      have hcl : Reads wr w.heap.size 5 (some ⟨b3, off, none⟩) n3 (L.flatMap encOp) := (hL3.out.more (Nat.le_refl _)).held hk (by omega) (by intro i hi; omega)
      obtain ⟨x1, x2, x3, x4, x5⟩ := op_at hcl hx
      have hz3 : b3 < wr.heap.size := by omega
      by_cases h60 : j < 60
      · generalize L[j]'(by have := HL.out; omega) = x at x1 x2 x3 x4 x5 hwx
        obtain ⟨hh, v, ko, sd, on⟩ := x
        obtain ⟨hv0, hv1, hk0, hk1, -, -⟩ := hwx
        simp only at x1 x2 x3 x4 x5 hv0 hv1 hk0 hk1
        obtain ⟨k, hk256, rfl⟩ := byte_nat ⟨hk0, hk1⟩
        clear hx hcl hk0 hk1
        have hM' := Lib.hid hm
        have hH' := Lib.hid hH
        have hD' := Lib.hid hD
        clear hm hH hD
        have hbr : b < wr.heap.size := by omega
        have key : ∀ (S' : Nat → Nat → Int) (Lw : List (Int × Int)) (E : Int), (Lw = [] ∨ ∃ y, Lw = [(y, (k : Int))] ∧ 0 ≤ y ∧ y ≤ 255) → True := fun _ _ _ _ => trivial
        cases hh
        · go_wp2_with fail
          refine (ask_at k (hM'.out.up ((Up.refl wr).alloc _) hbr) (by simp; omega) hk256 rfl).mono ?_
          rintro e w1 ⟨A, n, c, rfl, hn, hr, hf, hm1, hke⟩
          obtain ⟨G', hm1'⟩ : ∃ S', MAt w1 b S' G := ⟨_, hm1⟩
          have hMm := Lib.hid hm1'
          have hRr := Lib.hid hr
          have hNn := Lib.hid hn
          have hHF : ∀ (g o : Nat), A = some ⟨g, o, none⟩ → (wr.alloc (.cells #[.bool false, .int .u8 v, .int .u8 (k : Int), .int .i64 sd, .bool on] 29)).heap.size ≤ g := fun g o e => hf _ e
          have hz2 := hke.size
          simp at hz2
          have hz2' : wr.heap.size < w1.heap.size := by omega
          have hbe : b < w1.heap.size := by omega
          obtain ⟨yc, yf⟩ := hke.at_ wr.heap.size (by simp) (by omega)
          have hk1 : Keep (fun k => k = b ∨ k = bd ∨ k = bd + 1) we w1 := (hk.alloc _).trans (hke.mono (fun _ h => .inl h))
          have hkr1 : Keep (fun k => k = b ∨ k = bd ∨ k = bd + 1) (wr.alloc (.cells #[.bool false, .int .u8 v, .int .u8 (k : Int), .int .i64 sd, .bool on] 29)) w1 := hke.mono (fun _ h => .inl h)
          have hH1 := (hH'.out.kept (E := fun _ => False) (Keep.of_up ((Up.refl wr).alloc (.cells #[.bool false, .int .u8 v, .int .u8 (k : Int), .int .i64 sd, .bool on] 29))) (by omega) (by simp)).kept hke (by simp; omega) (by omega)
          have hD1 := (hD'.out.kept (E := fun _ => False) (Keep.of_up ((Up.refl wr).alloc (.cells #[.bool false, .int .u8 v, .int .u8 (k : Int), .int .i64 sd, .bool on] 29))) (by omega) (by simp)).kept hke (by simp; omega) (by omega)
          obtain ⟨dk0, dk1, dk2⟩ := HDL.out k
          obtain ⟨p1, p2⟩ := hH1 k hk256
          obtain ⟨p3, p4⟩ := hD1 k hk256
          have hk256' : (k : Int) < 256 := by omega
          have hb1 : bd < w1.heap.size := by omega
          have hb2 : bd + 1 < w1.heap.size := by omega
          have hj256 : H k ≤ 60 := by omega
          have hHs := hH1.set k hk256 (H k + 1)
          clear hn hr hf hm1 hm1' hH1
          have hHH1 := Lib.hid hHs
          have hDD1 := Lib.hid hD1
          clear hHs hD1
          rcases askL_form sd k on S with hLw | ⟨y, hLw, hy0, hy1⟩
          · obtain rfl : n = 0 := hNn.out.trans (by rw [hLw]; rfl)
            clear hLw
            go_wp2_with fail
            have hk13 : Keep (fun k => k = bd ∨ k = bd + 1) w1 ((w1.setCell ⟨bd, k, none⟩ (.int .i64 (H k + 1))).setCell ⟨bd + 1, k, none⟩ (.int .i64 (D k))) := ((Keep.refl _ w1).setCell (p := ⟨bd, k, none⟩) (.inl (.inl rfl)) _).setCell (p := ⟨bd + 1, k, none⟩) (.inl (.inr rfl)) _
            have hH3 : NumsAt ((w1.setCell ⟨bd, k, none⟩ (.int .i64 (H k + 1))).setCell ⟨bd + 1, k, none⟩ (.int .i64 (D k))) bd (fun o => if o = k then H k + 1 else H o) := hHH1.out.kept (E := fun k => k = bd + 1) ((Keep.refl (fun k => k = bd + 1) _).setCell (p := ⟨bd + 1, k, none⟩) (.inl rfl) _) (by have := (Keep.refl (fun k => k = bd) w1).setCell (p := ⟨bd, k, none⟩) (.inl rfl) (.int .i64 (H k + 1)); have := this.size; omega) (by omega)
            have hD3 : NumsAt ((w1.setCell ⟨bd, k, none⟩ (.int .i64 (H k + 1))).setCell ⟨bd + 1, k, none⟩ (.int .i64 (D k))) (bd + 1) (fun o => if o = k then D k else D o) := (hDD1.out.kept (E := fun k => k = bd) ((Keep.refl (fun k => k = bd) _).setCell (p := ⟨bd, k, none⟩) (.inl rfl) _) hb2 (by omega)).set k hk256 _
            have hM3 := hMm.out.kept hk13 hbe (by omega)
            obtain ⟨zc3, zf3⟩ := hk13.at_ wr.heap.size hz2' (by omega)
            have o2 : ((w1.setCell ⟨bd, k, none⟩ (.int .i64 (H k + 1))).setCell ⟨bd + 1, k, none⟩ (.int .i64 (D k))).cell? ⟨wr.heap.size, 2, none⟩ = some (.int .u8 (k : Int)) := by rw [zc3, yc]; simp
            have hk3 := hk1.trans (hk13.mono (fun _ h => .inr h))
            have hzz := hk13.size
            clear zc3 zf3 yc yf p1 p2 p3 p4
            generalize ((w1.setCell ⟨bd, k, none⟩ (.int .i64 (H k + 1))).setCell ⟨bd + 1, k, none⟩ (.int .i64 (D k))) = w3 at *
            obtain ⟨q1, q2⟩ := hH3 k hk256
            obtain ⟨q3, q4⟩ := hD3 k hk256
            simp only [if_true] at q1 q3
            have hHH3 := Lib.hid hH3
            have hDD3 := Lib.hid hD3
            have hMM3 := Lib.hid hM3
            have hK3 := Lib.hid hk3
            have y1 : bd < w3.heap.size := by omega
            have y2 : bd + 1 < w3.heap.size := by omega
            have y3 : wr.heap.size < w3.heap.size := by omega
            have y4 : b < w3.heap.size := by omega
            clear hH3 hD3 hM3 hk3
            refine wp_region_mix (NS := []) [] rfl (by kernel_rfl) (by kernel_rfl) (by simp) (by simp) ?_
            repeat (first
              | (refine mix_skip rfl rfl ?_; simp only [Act.put, List.setIfInBounds_toArray, List.set_cons_succ, List.set_cons_zero])
              | (refine mix_q rfl rfl rfl (by kernel_rfl) rfl rfl rfl ?_
                 apply Exists.intro
                 refine ⟨fun Wm => ?_, ?_⟩
                 · simp only [fin]
                   repeat (first | (rintro _ ⟨gm, om, rfl, hgm, hcm⟩) | (intro vm hvm; obtain ⟨gm, om, cm, rfl, h2m, hxm, hgm, hcm, hdm⟩ := rsl_two hvm) | (rintro _ ⟨Am, nm, cm, rfl, hnm, hlm, hmm, hrm⟩; simp only [List.length_cons, List.length_nil, Nat.zero_add, Nat.reduceAdd] at hnm; subst hnm))
                   intro K hK
                   go_wp2_with (fail)
                   refine hK _ _ ?_ ?_ ?_
                   · (repeat (first | with_reducible exact Up.refl _ | with_reducible refine Up.alloc ?_ _ | with_reducible refine Up.drew ?_ | with_reducible refine Up.drewN ?_ _ | with_reducible refine Up.setCell ?_ (by (try simp) <;> omega) _ | with_reducible assumption | with_reducible refine Up.trans ?_ (by assumption)))
                   · rfl
                   · rfl
                 simp only [Act.put, List.setIfInBounds_toArray, List.set_cons_succ, List.set_cons_zero]))
            refine mix_nil ?_
            intro w4 hb_w4
            simp only [fin]
            have hu_w4 : Up w3 w4 := by (repeat (first | with_reducible exact Up.refl _ | with_reducible refine Up.alloc ?_ _ | with_reducible refine Up.drew ?_ | with_reducible refine Up.drewN ?_ _ | with_reducible refine Up.setCell ?_ (by (try simp) <;> omega) _ | with_reducible assumption | with_reducible refine Up.trans ?_ (by assumption)))
            have hz_w4 := Up.size hb_w4
            try simp at hz_w4
            obtain ⟨bc_w4_0, bf_w4_0⟩ := hu_w4.at_ (bd) (by omega)
            obtain ⟨bc_w4_1, bf_w4_1⟩ := hu_w4.at_ (bd + 1) (by omega)
            obtain ⟨bc_w4_2, bf_w4_2⟩ := hu_w4.at_ (wr.heap.size) (by omega)
            have zb_w4_0 : bd < w4.heap.size := by omega
            have zb_w4_1 : bd + 1 < w4.heap.size := by omega
            have zb_w4_2 : wr.heap.size < w4.heap.size := by omega
            go_wp2_with fail
            refine wp_loop_rounds 1 ?_
            rw [rounds_succ]
            go_wp2
            go_roundw
            case rel =>
              refine ⟨j + 1, _, _, _, by omega, by omega, by go_num, hMM3.out.up hb_w4 y4, hHH3.out.kept (Keep.of_up (E := fun _ => False) hb_w4) y1 (by simp), hDD3.out.kept (Keep.of_up (E := fun _ => False) hb_w4) y2 (by simp), fun o => ?_, hK3.out.up hb_w4⟩
              obtain ⟨r0, r1, r2⟩ := HDL.out o
              by_cases e : o = k
              · subst e; simp only [if_true]; omega
              · simp only [if_neg e]; omega
            case measure => simp [intOf]; omega
          · obtain ⟨rfl, g, og, rfl, hg, c1, c2⟩ := word_one' hRr.out hLw hNn.out
            clear hLw
            go_wp2_with fail
            have hk13 : Keep (fun k => k = bd ∨ k = bd + 1) w1 ((w1.setCell ⟨bd, k, none⟩ (.int .i64 (H k + 1))).setCell ⟨bd + 1, k, none⟩ (.int .i64 (D k + 1))) := ((Keep.refl _ w1).setCell (p := ⟨bd, k, none⟩) (.inl (.inl rfl)) _).setCell (p := ⟨bd + 1, k, none⟩) (.inl (.inr rfl)) _
            have hH3 : NumsAt ((w1.setCell ⟨bd, k, none⟩ (.int .i64 (H k + 1))).setCell ⟨bd + 1, k, none⟩ (.int .i64 (D k + 1))) bd (fun o => if o = k then H k + 1 else H o) := hHH1.out.kept (E := fun k => k = bd + 1) ((Keep.refl (fun k => k = bd + 1) _).setCell (p := ⟨bd + 1, k, none⟩) (.inl rfl) _) (by have := (Keep.refl (fun k => k = bd) w1).setCell (p := ⟨bd, k, none⟩) (.inl rfl) (.int .i64 (H k + 1)); have := this.size; omega) (by omega)
            have hD3 : NumsAt ((w1.setCell ⟨bd, k, none⟩ (.int .i64 (H k + 1))).setCell ⟨bd + 1, k, none⟩ (.int .i64 (D k + 1))) (bd + 1) (fun o => if o = k then D k + 1 else D o) := (hDD1.out.kept (E := fun k => k = bd) ((Keep.refl (fun k => k = bd) _).setCell (p := ⟨bd, k, none⟩) (.inl rfl) _) hb2 (by omega)).set k hk256 _
            have hM3 := hMm.out.kept hk13 hbe (by omega)
            obtain ⟨zc3, zf3⟩ := hk13.at_ wr.heap.size hz2' (by omega)
            have o2 : ((w1.setCell ⟨bd, k, none⟩ (.int .i64 (H k + 1))).setCell ⟨bd + 1, k, none⟩ (.int .i64 (D k + 1))).cell? ⟨wr.heap.size, 2, none⟩ = some (.int .u8 (k : Int)) := by rw [zc3, yc]; simp
            obtain ⟨gc3, gf3⟩ := hk13.at_ g hg (by have := hHF g og rfl; simp at this; omega)
            rw [← gc3] at c1 c2
            have y5 : g < ((w1.setCell ⟨bd, k, none⟩ (.int .i64 (H k + 1))).setCell ⟨bd + 1, k, none⟩ (.int .i64 (D k + 1))).heap.size := by have := hk13.size; omega
            clear gc3 gf3
            have hk3 := hk1.trans (hk13.mono (fun _ h => .inr h))
            have hzz := hk13.size
            clear zc3 zf3 yc yf p1 p2 p3 p4
            generalize ((w1.setCell ⟨bd, k, none⟩ (.int .i64 (H k + 1))).setCell ⟨bd + 1, k, none⟩ (.int .i64 (D k + 1))) = w3 at *
            obtain ⟨q1, q2⟩ := hH3 k hk256
            obtain ⟨q3, q4⟩ := hD3 k hk256
            simp only [if_true] at q1 q3
            have hHH3 := Lib.hid hH3
            have hDD3 := Lib.hid hD3
            have hMM3 := Lib.hid hM3
            have hK3 := Lib.hid hk3
            have y1 : bd < w3.heap.size := by omega
            have y2 : bd + 1 < w3.heap.size := by omega
            have y3 : wr.heap.size < w3.heap.size := by omega
            have y4 : b < w3.heap.size := by omega
            clear hH3 hD3 hM3 hk3
            refine wp_region_mix (NS := []) [] rfl (by kernel_rfl) (by kernel_rfl) (by simp) (by simp) ?_
            repeat (first
              | (refine mix_skip rfl rfl ?_; simp only [Act.put, List.setIfInBounds_toArray, List.set_cons_succ, List.set_cons_zero])
              | (refine mix_q rfl rfl rfl (by kernel_rfl) rfl rfl rfl ?_
                 apply Exists.intro
                 refine ⟨fun Wm => ?_, ?_⟩
                 · simp only [fin]
                   repeat (first | (rintro _ ⟨gm, om, rfl, hgm, hcm⟩) | (intro vm hvm; obtain ⟨gm, om, cm, rfl, h2m, hxm, hgm, hcm, hdm⟩ := rsl_two hvm) | (rintro _ ⟨Am, nm, cm, rfl, hnm, hlm, hmm, hrm⟩; simp only [List.length_cons, List.length_nil, Nat.zero_add, Nat.reduceAdd] at hnm; subst hnm))
                   intro K hK
                   go_wp2_with (fail)
                   refine hK _ _ ?_ ?_ ?_
                   · (repeat (first | with_reducible exact Up.refl _ | with_reducible refine Up.alloc ?_ _ | with_reducible refine Up.drew ?_ | with_reducible refine Up.drewN ?_ _ | with_reducible refine Up.setCell ?_ (by (try simp) <;> omega) _ | with_reducible assumption | with_reducible refine Up.trans ?_ (by assumption)))
                   · rfl
                   · rfl
                 simp only [Act.put, List.setIfInBounds_toArray, List.set_cons_succ, List.set_cons_zero]))
            refine mix_nil ?_
            intro w4 hb_w4
            simp only [fin]
            have hu_w4 : Up w3 w4 := by (repeat (first | with_reducible exact Up.refl _ | with_reducible refine Up.alloc ?_ _ | with_reducible refine Up.drew ?_ | with_reducible refine Up.drewN ?_ _ | with_reducible refine Up.setCell ?_ (by (try simp) <;> omega) _ | with_reducible assumption | with_reducible refine Up.trans ?_ (by assumption)))
            have hz_w4 := Up.size hb_w4
            try simp at hz_w4
            obtain ⟨bc_w4_0, bf_w4_0⟩ := hu_w4.at_ (bd) (by omega)
            obtain ⟨bc_w4_1, bf_w4_1⟩ := hu_w4.at_ (bd + 1) (by omega)
            obtain ⟨bc_w4_2, bf_w4_2⟩ := hu_w4.at_ (wr.heap.size) (by omega)
            obtain ⟨bc_w4_3, bf_w4_3⟩ := hu_w4.at_ (g) (by omega)
            have zb_w4_0 : bd < w4.heap.size := by omega
            have zb_w4_1 : bd + 1 < w4.heap.size := by omega
            have zb_w4_2 : wr.heap.size < w4.heap.size := by omega
            have zb_w4_3 : g < w4.heap.size := by omega
            go_wp2_with fail
            refine wp_loop_rounds 2 ?_
            rw [rounds_succ]
            go_wp2_with fail
            have hbnd : ∀ x ∈ [255, y, (k : Int)], 0 ≤ x ∧ x ≤ 255 := by simp; omega
            have y6 : w4.heap.size < (w4.alloc (.cells #[.int .u8 y, .int .u8 (k : Int)] 37)).heap.size := by simp
            have y7 : wr.heap.size < (w4.alloc (.cells #[.int .u8 y, .int .u8 (k : Int)] 37)).heap.size := by simp; omega
            have HBN := Lib.hid hbnd
            clear hbnd
            refine wp_region_mix (NS := [(89, RSl [255, y, (k : Int)]), (94, RSl [255, y, (k : Int)])]) [89, 94] rfl (by kernel_rfl) (by kernel_rfl) (by simp) (by intro p hp; simp only [List.mem_cons, List.mem_nil_iff, or_false] at hp; rcases hp with rfl | rfl; all_goals (first | exact rsl_up _ | exact rptr_up _)) ?_
            repeat (first
              | (refine mix_skip rfl rfl ?_; simp only [Act.put, List.setIfInBounds_toArray, List.set_cons_succ, List.set_cons_zero])
              | (refine mix_q rfl rfl rfl (by kernel_rfl) rfl rfl rfl ?_
                 apply Exists.intro
                 refine ⟨fun Wm => ?_, ?_⟩
                 · simp only [fin]
                   repeat (first | (rintro _ ⟨gm, om, rfl, hgm, hcm⟩) | (intro vm hvm; obtain ⟨gm, om, cm, rfl, h2m, hxm, hgm, hcm, hdm⟩ := rsl_two hvm) | (rintro _ ⟨Am, nm, cm, rfl, hnm, hlm, hmm, hrm⟩; simp only [List.length_cons, List.length_nil, Nat.zero_add, Nat.reduceAdd] at hnm; subst hnm))
                   intro K hK
                   go_wp2_with ((first | (go_at_call 16; refine (msg_is _ _ _).mono ?_; rintro e w' ⟨Ax, nx, cx, rfl, hRx, hux⟩) | (go_at_call 15; refine (same_at (by assumption) (by assumption) HBN.out HBN.out (decide_eq_true rfl)).mono ?_; rintro e w' ⟨rfl, rfl⟩)))
                   refine hK _ _ ?_ ?_ ?_
                   · (repeat (first | with_reducible exact Up.refl _ | with_reducible refine Up.alloc ?_ _ | with_reducible refine Up.drew ?_ | with_reducible refine Up.drewN ?_ _ | with_reducible refine Up.setCell ?_ (by (try simp) <;> omega) _ | with_reducible assumption | with_reducible refine Up.trans ?_ (by assumption)))
                   · rfl
                   · rfl
                 simp only [Act.put, List.setIfInBounds_toArray, List.set_cons_succ, List.set_cons_zero])
              | (refine mix_n rfl rfl rfl (by kernel_rfl) rfl rfl rfl ?_ ?_
                 · intro Wm
                   simp only [fin]
                   repeat (first | (rintro _ ⟨gm, om, rfl, hgm, hcm⟩) | (intro vm hvm; obtain ⟨gm, om, cm, rfl, h2m, hxm, hgm, hcm, hdm⟩ := rsl_two hvm) | (rintro _ ⟨Am, nm, cm, rfl, hnm, hlm, hmm, hrm⟩; simp only [List.length_cons, List.length_nil, Nat.zero_add, Nat.reduceAdd] at hnm; subst hnm))
                   intro K hK
                   go_wp2_with ((first | (go_at_call 16; refine (msg_is _ _ _).mono ?_; rintro e w' ⟨Ax, nx, cx, rfl, hRx, hux⟩) | (go_at_call 15; refine (same_at (by assumption) (by assumption) HBN.out HBN.out (decide_eq_true rfl)).mono ?_; rintro e w' ⟨rfl, rfl⟩)))
                   apply hK
                   · (repeat (first | with_reducible exact Up.refl _ | with_reducible refine Up.alloc ?_ _ | with_reducible refine Up.drew ?_ | with_reducible refine Up.drewN ?_ _ | with_reducible refine Up.setCell ?_ (by (try simp) <;> omega) _ | with_reducible assumption | with_reducible refine Up.trans ?_ (by assumption)))
                   · rfl
                   · rfl
                   · first | exact rsl_lit _ _ _ _ _ _ rfl rfl (by simp [maxLen]) rfl | exact ⟨_, _, rfl, hgm, hcm⟩ | exact ⟨_, _, rfl, hgm, hdm⟩ | assumption
                 simp only [Act.put, List.setIfInBounds_toArray, List.set_cons_succ, List.set_cons_zero]))
            refine mix_nil ?_
            intro w5 hb_w5
            simp only [fin]
            intro vm_w5_0 hvm_w5_0
            intro vm_w5_1 hvm_w5_1
            simp only [Act.put, List.setIfInBounds_toArray, List.set_cons_succ, List.set_cons_zero]
            have hu_w5 : Up w4 w5 := by (repeat (first | with_reducible exact Up.refl _ | with_reducible refine Up.alloc ?_ _ | with_reducible refine Up.drew ?_ | with_reducible refine Up.drewN ?_ _ | with_reducible refine Up.setCell ?_ (by (try simp) <;> omega) _ | with_reducible assumption | with_reducible refine Up.trans ?_ (by assumption)))
            have hz_w5 := Up.size hb_w5
            try simp at hz_w5
            obtain ⟨bc_w5_0, bf_w5_0⟩ := hu_w5.at_ (bd) (by omega)
            obtain ⟨bc_w5_1, bf_w5_1⟩ := hu_w5.at_ (bd + 1) (by omega)
            obtain ⟨bc_w5_2, bf_w5_2⟩ := hu_w5.at_ (wr.heap.size) (by omega)
            obtain ⟨bc_w5_3, bf_w5_3⟩ := hu_w5.at_ (g) (by omega)
            have zb_w5_0 : bd < w5.heap.size := by omega
            have zb_w5_1 : bd + 1 < w5.heap.size := by omega
            have zb_w5_2 : wr.heap.size < w5.heap.size := by omega
            have zb_w5_3 : g < w5.heap.size := by omega
            go_wp2_with fail
            rw [rounds_succ]
            go_wp2
            go_roundw
            case rel =>
              have hb45 := hb_w4.trans hu_w5
              refine ⟨j + 1, _, _, _, by omega, by omega, by go_num, hMM3.out.up hb45 y4, hHH3.out.kept (Keep.of_up (E := fun _ => False) hb45) y1 (by simp), hDD3.out.kept (Keep.of_up (E := fun _ => False) hb45) y2 (by simp), fun o => ?_, hK3.out.up hb45⟩
              obtain ⟨r0, r1, r2⟩ := HDL.out o
              by_cases e : o = k
              · subst e; simp only [if_true]; omega
              · simp only [if_neg e]; omega
            case measure => simp [intOf]; omega
        · go_wp2_with fail
          refine (hear_at k (hM'.out.up ((Up.refl wr).alloc _) hbr) (by simp; omega) hk256 rfl).mono ?_
          rintro e w1 ⟨A, n, c, rfl, hn, hr, hf, hm1, hke⟩
          obtain ⟨G', hm1'⟩ : ∃ S', MAt w1 b S' G := ⟨_, hm1⟩
          have hMm := Lib.hid hm1'
          have hRr := Lib.hid hr
          have hNn := Lib.hid hn
          have hHF : ∀ (g o : Nat), A = some ⟨g, o, none⟩ → (wr.alloc (.cells #[.bool true, .int .u8 v, .int .u8 (k : Int), .int .i64 sd, .bool on] 29)).heap.size ≤ g := fun g o e => hf _ e
          have hz2 := hke.size
          simp at hz2
          have hz2' : wr.heap.size < w1.heap.size := by omega
          have hbe : b < w1.heap.size := by omega
          obtain ⟨yc, yf⟩ := hke.at_ wr.heap.size (by simp) (by omega)
          have hk1 : Keep (fun k => k = b ∨ k = bd ∨ k = bd + 1) we w1 := (hk.alloc _).trans (hke.mono (fun _ h => .inl h))
          have hkr1 : Keep (fun k => k = b ∨ k = bd ∨ k = bd + 1) (wr.alloc (.cells #[.bool true, .int .u8 v, .int .u8 (k : Int), .int .i64 sd, .bool on] 29)) w1 := hke.mono (fun _ h => .inl h)
          have hH1 := (hH'.out.kept (E := fun _ => False) (Keep.of_up ((Up.refl wr).alloc (.cells #[.bool true, .int .u8 v, .int .u8 (k : Int), .int .i64 sd, .bool on] 29))) (by omega) (by simp)).kept hke (by simp; omega) (by omega)
          have hD1 := (hD'.out.kept (E := fun _ => False) (Keep.of_up ((Up.refl wr).alloc (.cells #[.bool true, .int .u8 v, .int .u8 (k : Int), .int .i64 sd, .bool on] 29))) (by omega) (by simp)).kept hke (by simp; omega) (by omega)
          obtain ⟨dk0, dk1, dk2⟩ := HDL.out k
          obtain ⟨p1, p2⟩ := hH1 k hk256
          obtain ⟨p3, p4⟩ := hD1 k hk256
          have hk256' : (k : Int) < 256 := by omega
          have hb1 : bd < w1.heap.size := by omega
          have hb2 : bd + 1 < w1.heap.size := by omega
          have hj256 : H k ≤ 60 := by omega
          have hHs := hH1.set k hk256 (H k + 1)
          clear hn hr hf hm1 hm1' hH1
          have hHH1 := Lib.hid hHs
          have hDD1 := Lib.hid hD1
          clear hHs hD1
          rcases hearL_form v k S G with hLw | ⟨y, hLw, hy0, hy1⟩
          · obtain rfl : n = 0 := hNn.out.trans (by rw [hLw]; rfl)
            clear hLw
            go_wp2_with fail
            have hk13 : Keep (fun k => k = bd ∨ k = bd + 1) w1 ((w1.setCell ⟨bd, k, none⟩ (.int .i64 (H k + 1))).setCell ⟨bd + 1, k, none⟩ (.int .i64 (D k))) := ((Keep.refl _ w1).setCell (p := ⟨bd, k, none⟩) (.inl (.inl rfl)) _).setCell (p := ⟨bd + 1, k, none⟩) (.inl (.inr rfl)) _
            have hH3 : NumsAt ((w1.setCell ⟨bd, k, none⟩ (.int .i64 (H k + 1))).setCell ⟨bd + 1, k, none⟩ (.int .i64 (D k))) bd (fun o => if o = k then H k + 1 else H o) := hHH1.out.kept (E := fun k => k = bd + 1) ((Keep.refl (fun k => k = bd + 1) _).setCell (p := ⟨bd + 1, k, none⟩) (.inl rfl) _) (by have := (Keep.refl (fun k => k = bd) w1).setCell (p := ⟨bd, k, none⟩) (.inl rfl) (.int .i64 (H k + 1)); have := this.size; omega) (by omega)
            have hD3 : NumsAt ((w1.setCell ⟨bd, k, none⟩ (.int .i64 (H k + 1))).setCell ⟨bd + 1, k, none⟩ (.int .i64 (D k))) (bd + 1) (fun o => if o = k then D k else D o) := (hDD1.out.kept (E := fun k => k = bd) ((Keep.refl (fun k => k = bd) _).setCell (p := ⟨bd, k, none⟩) (.inl rfl) _) hb2 (by omega)).set k hk256 _
            have hM3 := hMm.out.kept hk13 hbe (by omega)
            obtain ⟨zc3, zf3⟩ := hk13.at_ wr.heap.size hz2' (by omega)
            have o2 : ((w1.setCell ⟨bd, k, none⟩ (.int .i64 (H k + 1))).setCell ⟨bd + 1, k, none⟩ (.int .i64 (D k))).cell? ⟨wr.heap.size, 2, none⟩ = some (.int .u8 (k : Int)) := by rw [zc3, yc]; simp
            have hk3 := hk1.trans (hk13.mono (fun _ h => .inr h))
            have hzz := hk13.size
            clear zc3 zf3 yc yf p1 p2 p3 p4
            generalize ((w1.setCell ⟨bd, k, none⟩ (.int .i64 (H k + 1))).setCell ⟨bd + 1, k, none⟩ (.int .i64 (D k))) = w3 at *
            obtain ⟨q1, q2⟩ := hH3 k hk256
            obtain ⟨q3, q4⟩ := hD3 k hk256
            simp only [if_true] at q1 q3
            have hHH3 := Lib.hid hH3
            have hDD3 := Lib.hid hD3
            have hMM3 := Lib.hid hM3
            have hK3 := Lib.hid hk3
            have y1 : bd < w3.heap.size := by omega
            have y2 : bd + 1 < w3.heap.size := by omega
            have y3 : wr.heap.size < w3.heap.size := by omega
            have y4 : b < w3.heap.size := by omega
            clear hH3 hD3 hM3 hk3
            refine wp_region_mix (NS := []) [] rfl (by kernel_rfl) (by kernel_rfl) (by simp) (by simp) ?_
            repeat (first
              | (refine mix_skip rfl rfl ?_; simp only [Act.put, List.setIfInBounds_toArray, List.set_cons_succ, List.set_cons_zero])
              | (refine mix_q rfl rfl rfl (by kernel_rfl) rfl rfl rfl ?_
                 apply Exists.intro
                 refine ⟨fun Wm => ?_, ?_⟩
                 · simp only [fin]
                   repeat (first | (rintro _ ⟨gm, om, rfl, hgm, hcm⟩) | (intro vm hvm; obtain ⟨gm, om, cm, rfl, h2m, hxm, hgm, hcm, hdm⟩ := rsl_two hvm) | (rintro _ ⟨Am, nm, cm, rfl, hnm, hlm, hmm, hrm⟩; simp only [List.length_cons, List.length_nil, Nat.zero_add, Nat.reduceAdd] at hnm; subst hnm))
                   intro K hK
                   go_wp2_with (fail)
                   refine hK _ _ ?_ ?_ ?_
                   · (repeat (first | with_reducible exact Up.refl _ | with_reducible refine Up.alloc ?_ _ | with_reducible refine Up.drew ?_ | with_reducible refine Up.drewN ?_ _ | with_reducible refine Up.setCell ?_ (by (try simp) <;> omega) _ | with_reducible assumption | with_reducible refine Up.trans ?_ (by assumption)))
                   · rfl
                   · rfl
                 simp only [Act.put, List.setIfInBounds_toArray, List.set_cons_succ, List.set_cons_zero]))
            refine mix_nil ?_
            intro w4 hb_w4
            simp only [fin]
            have hu_w4 : Up w3 w4 := by (repeat (first | with_reducible exact Up.refl _ | with_reducible refine Up.alloc ?_ _ | with_reducible refine Up.drew ?_ | with_reducible refine Up.drewN ?_ _ | with_reducible refine Up.setCell ?_ (by (try simp) <;> omega) _ | with_reducible assumption | with_reducible refine Up.trans ?_ (by assumption)))
            have hz_w4 := Up.size hb_w4
            try simp at hz_w4
            obtain ⟨bc_w4_0, bf_w4_0⟩ := hu_w4.at_ (bd) (by omega)
            obtain ⟨bc_w4_1, bf_w4_1⟩ := hu_w4.at_ (bd + 1) (by omega)
            obtain ⟨bc_w4_2, bf_w4_2⟩ := hu_w4.at_ (wr.heap.size) (by omega)
            have zb_w4_0 : bd < w4.heap.size := by omega
            have zb_w4_1 : bd + 1 < w4.heap.size := by omega
            have zb_w4_2 : wr.heap.size < w4.heap.size := by omega
            go_wp2_with fail
            refine wp_loop_rounds 1 ?_
            rw [rounds_succ]
            go_wp2
            go_roundw
            case rel =>
              refine ⟨j + 1, _, _, _, by omega, by omega, by go_num, hMM3.out.up hb_w4 y4, hHH3.out.kept (Keep.of_up (E := fun _ => False) hb_w4) y1 (by simp), hDD3.out.kept (Keep.of_up (E := fun _ => False) hb_w4) y2 (by simp), fun o => ?_, hK3.out.up hb_w4⟩
              obtain ⟨r0, r1, r2⟩ := HDL.out o
              by_cases e : o = k
              · subst e; simp only [if_true]; omega
              · simp only [if_neg e]; omega
            case measure => simp [intOf]; omega
          · obtain ⟨rfl, g, og, rfl, hg, c1, c2⟩ := word_one' hRr.out hLw hNn.out
            clear hLw
            go_wp2_with fail
            have hk13 : Keep (fun k => k = bd ∨ k = bd + 1) w1 ((w1.setCell ⟨bd, k, none⟩ (.int .i64 (H k + 1))).setCell ⟨bd + 1, k, none⟩ (.int .i64 (D k + 1))) := ((Keep.refl _ w1).setCell (p := ⟨bd, k, none⟩) (.inl (.inl rfl)) _).setCell (p := ⟨bd + 1, k, none⟩) (.inl (.inr rfl)) _
            have hH3 : NumsAt ((w1.setCell ⟨bd, k, none⟩ (.int .i64 (H k + 1))).setCell ⟨bd + 1, k, none⟩ (.int .i64 (D k + 1))) bd (fun o => if o = k then H k + 1 else H o) := hHH1.out.kept (E := fun k => k = bd + 1) ((Keep.refl (fun k => k = bd + 1) _).setCell (p := ⟨bd + 1, k, none⟩) (.inl rfl) _) (by have := (Keep.refl (fun k => k = bd) w1).setCell (p := ⟨bd, k, none⟩) (.inl rfl) (.int .i64 (H k + 1)); have := this.size; omega) (by omega)
            have hD3 : NumsAt ((w1.setCell ⟨bd, k, none⟩ (.int .i64 (H k + 1))).setCell ⟨bd + 1, k, none⟩ (.int .i64 (D k + 1))) (bd + 1) (fun o => if o = k then D k + 1 else D o) := (hDD1.out.kept (E := fun k => k = bd) ((Keep.refl (fun k => k = bd) _).setCell (p := ⟨bd, k, none⟩) (.inl rfl) _) hb2 (by omega)).set k hk256 _
            have hM3 := hMm.out.kept hk13 hbe (by omega)
            obtain ⟨zc3, zf3⟩ := hk13.at_ wr.heap.size hz2' (by omega)
            have o2 : ((w1.setCell ⟨bd, k, none⟩ (.int .i64 (H k + 1))).setCell ⟨bd + 1, k, none⟩ (.int .i64 (D k + 1))).cell? ⟨wr.heap.size, 2, none⟩ = some (.int .u8 (k : Int)) := by rw [zc3, yc]; simp
            obtain ⟨gc3, gf3⟩ := hk13.at_ g hg (by have := hHF g og rfl; simp at this; omega)
            rw [← gc3] at c1 c2
            have y5 : g < ((w1.setCell ⟨bd, k, none⟩ (.int .i64 (H k + 1))).setCell ⟨bd + 1, k, none⟩ (.int .i64 (D k + 1))).heap.size := by have := hk13.size; omega
            clear gc3 gf3
            have hk3 := hk1.trans (hk13.mono (fun _ h => .inr h))
            have hzz := hk13.size
            clear zc3 zf3 yc yf p1 p2 p3 p4
            generalize ((w1.setCell ⟨bd, k, none⟩ (.int .i64 (H k + 1))).setCell ⟨bd + 1, k, none⟩ (.int .i64 (D k + 1))) = w3 at *
            obtain ⟨q1, q2⟩ := hH3 k hk256
            obtain ⟨q3, q4⟩ := hD3 k hk256
            simp only [if_true] at q1 q3
            have hHH3 := Lib.hid hH3
            have hDD3 := Lib.hid hD3
            have hMM3 := Lib.hid hM3
            have hK3 := Lib.hid hk3
            have y1 : bd < w3.heap.size := by omega
            have y2 : bd + 1 < w3.heap.size := by omega
            have y3 : wr.heap.size < w3.heap.size := by omega
            have y4 : b < w3.heap.size := by omega
            clear hH3 hD3 hM3 hk3
            refine wp_region_mix (NS := []) [] rfl (by kernel_rfl) (by kernel_rfl) (by simp) (by simp) ?_
            repeat (first
              | (refine mix_skip rfl rfl ?_; simp only [Act.put, List.setIfInBounds_toArray, List.set_cons_succ, List.set_cons_zero])
              | (refine mix_q rfl rfl rfl (by kernel_rfl) rfl rfl rfl ?_
                 apply Exists.intro
                 refine ⟨fun Wm => ?_, ?_⟩
                 · simp only [fin]
                   repeat (first | (rintro _ ⟨gm, om, rfl, hgm, hcm⟩) | (intro vm hvm; obtain ⟨gm, om, cm, rfl, h2m, hxm, hgm, hcm, hdm⟩ := rsl_two hvm) | (rintro _ ⟨Am, nm, cm, rfl, hnm, hlm, hmm, hrm⟩; simp only [List.length_cons, List.length_nil, Nat.zero_add, Nat.reduceAdd] at hnm; subst hnm))
                   intro K hK
                   go_wp2_with (fail)
                   refine hK _ _ ?_ ?_ ?_
                   · (repeat (first | with_reducible exact Up.refl _ | with_reducible refine Up.alloc ?_ _ | with_reducible refine Up.drew ?_ | with_reducible refine Up.drewN ?_ _ | with_reducible refine Up.setCell ?_ (by (try simp) <;> omega) _ | with_reducible assumption | with_reducible refine Up.trans ?_ (by assumption)))
                   · rfl
                   · rfl
                 simp only [Act.put, List.setIfInBounds_toArray, List.set_cons_succ, List.set_cons_zero]))
            refine mix_nil ?_
            intro w4 hb_w4
            simp only [fin]
            have hu_w4 : Up w3 w4 := by (repeat (first | with_reducible exact Up.refl _ | with_reducible refine Up.alloc ?_ _ | with_reducible refine Up.drew ?_ | with_reducible refine Up.drewN ?_ _ | with_reducible refine Up.setCell ?_ (by (try simp) <;> omega) _ | with_reducible assumption | with_reducible refine Up.trans ?_ (by assumption)))
            have hz_w4 := Up.size hb_w4
            try simp at hz_w4
            obtain ⟨bc_w4_0, bf_w4_0⟩ := hu_w4.at_ (bd) (by omega)
            obtain ⟨bc_w4_1, bf_w4_1⟩ := hu_w4.at_ (bd + 1) (by omega)
            obtain ⟨bc_w4_2, bf_w4_2⟩ := hu_w4.at_ (wr.heap.size) (by omega)
            obtain ⟨bc_w4_3, bf_w4_3⟩ := hu_w4.at_ (g) (by omega)
            have zb_w4_0 : bd < w4.heap.size := by omega
            have zb_w4_1 : bd + 1 < w4.heap.size := by omega
            have zb_w4_2 : wr.heap.size < w4.heap.size := by omega
            have zb_w4_3 : g < w4.heap.size := by omega
            go_wp2_with fail
            refine wp_loop_rounds 2 ?_
            rw [rounds_succ]
            go_wp2_with fail
            have hbnd : ∀ x ∈ [255, y, (k : Int)], 0 ≤ x ∧ x ≤ 255 := by simp; omega
            have y6 : w4.heap.size < (w4.alloc (.cells #[.int .u8 y, .int .u8 (k : Int)] 37)).heap.size := by simp
            have y7 : wr.heap.size < (w4.alloc (.cells #[.int .u8 y, .int .u8 (k : Int)] 37)).heap.size := by simp; omega
            have HBN := Lib.hid hbnd
            clear hbnd
            refine wp_region_mix (NS := [(89, RSl [255, y, (k : Int)]), (94, RSl [255, y, (k : Int)])]) [89, 94] rfl (by kernel_rfl) (by kernel_rfl) (by simp) (by intro p hp; simp only [List.mem_cons, List.mem_nil_iff, or_false] at hp; rcases hp with rfl | rfl; all_goals (first | exact rsl_up _ | exact rptr_up _)) ?_
            repeat (first
              | (refine mix_skip rfl rfl ?_; simp only [Act.put, List.setIfInBounds_toArray, List.set_cons_succ, List.set_cons_zero])
              | (refine mix_q rfl rfl rfl (by kernel_rfl) rfl rfl rfl ?_
                 apply Exists.intro
                 refine ⟨fun Wm => ?_, ?_⟩
                 · simp only [fin]
                   repeat (first | (rintro _ ⟨gm, om, rfl, hgm, hcm⟩) | (intro vm hvm; obtain ⟨gm, om, cm, rfl, h2m, hxm, hgm, hcm, hdm⟩ := rsl_two hvm) | (rintro _ ⟨Am, nm, cm, rfl, hnm, hlm, hmm, hrm⟩; simp only [List.length_cons, List.length_nil, Nat.zero_add, Nat.reduceAdd] at hnm; subst hnm))
                   intro K hK
                   go_wp2_with ((first | (go_at_call 16; refine (msg_is _ _ _).mono ?_; rintro e w' ⟨Ax, nx, cx, rfl, hRx, hux⟩) | (go_at_call 15; refine (same_at (by assumption) (by assumption) HBN.out HBN.out (decide_eq_true rfl)).mono ?_; rintro e w' ⟨rfl, rfl⟩)))
                   refine hK _ _ ?_ ?_ ?_
                   · (repeat (first | with_reducible exact Up.refl _ | with_reducible refine Up.alloc ?_ _ | with_reducible refine Up.drew ?_ | with_reducible refine Up.drewN ?_ _ | with_reducible refine Up.setCell ?_ (by (try simp) <;> omega) _ | with_reducible assumption | with_reducible refine Up.trans ?_ (by assumption)))
                   · rfl
                   · rfl
                 simp only [Act.put, List.setIfInBounds_toArray, List.set_cons_succ, List.set_cons_zero])
              | (refine mix_n rfl rfl rfl (by kernel_rfl) rfl rfl rfl ?_ ?_
                 · intro Wm
                   simp only [fin]
                   repeat (first | (rintro _ ⟨gm, om, rfl, hgm, hcm⟩) | (intro vm hvm; obtain ⟨gm, om, cm, rfl, h2m, hxm, hgm, hcm, hdm⟩ := rsl_two hvm) | (rintro _ ⟨Am, nm, cm, rfl, hnm, hlm, hmm, hrm⟩; simp only [List.length_cons, List.length_nil, Nat.zero_add, Nat.reduceAdd] at hnm; subst hnm))
                   intro K hK
                   go_wp2_with ((first | (go_at_call 16; refine (msg_is _ _ _).mono ?_; rintro e w' ⟨Ax, nx, cx, rfl, hRx, hux⟩) | (go_at_call 15; refine (same_at (by assumption) (by assumption) HBN.out HBN.out (decide_eq_true rfl)).mono ?_; rintro e w' ⟨rfl, rfl⟩)))
                   apply hK
                   · (repeat (first | with_reducible exact Up.refl _ | with_reducible refine Up.alloc ?_ _ | with_reducible refine Up.drew ?_ | with_reducible refine Up.drewN ?_ _ | with_reducible refine Up.setCell ?_ (by (try simp) <;> omega) _ | with_reducible assumption | with_reducible refine Up.trans ?_ (by assumption)))
                   · rfl
                   · rfl
                   · first | exact rsl_lit _ _ _ _ _ _ rfl rfl (by simp [maxLen]) rfl | exact ⟨_, _, rfl, hgm, hcm⟩ | exact ⟨_, _, rfl, hgm, hdm⟩ | assumption
                 simp only [Act.put, List.setIfInBounds_toArray, List.set_cons_succ, List.set_cons_zero]))
            refine mix_nil ?_
            intro w5 hb_w5
            simp only [fin]
            intro vm_w5_0 hvm_w5_0
            intro vm_w5_1 hvm_w5_1
            simp only [Act.put, List.setIfInBounds_toArray, List.set_cons_succ, List.set_cons_zero]
            have hu_w5 : Up w4 w5 := by (repeat (first | with_reducible exact Up.refl _ | with_reducible refine Up.alloc ?_ _ | with_reducible refine Up.drew ?_ | with_reducible refine Up.drewN ?_ _ | with_reducible refine Up.setCell ?_ (by (try simp) <;> omega) _ | with_reducible assumption | with_reducible refine Up.trans ?_ (by assumption)))
            have hz_w5 := Up.size hb_w5
            try simp at hz_w5
            obtain ⟨bc_w5_0, bf_w5_0⟩ := hu_w5.at_ (bd) (by omega)
            obtain ⟨bc_w5_1, bf_w5_1⟩ := hu_w5.at_ (bd + 1) (by omega)
            obtain ⟨bc_w5_2, bf_w5_2⟩ := hu_w5.at_ (wr.heap.size) (by omega)
            obtain ⟨bc_w5_3, bf_w5_3⟩ := hu_w5.at_ (g) (by omega)
            have zb_w5_0 : bd < w5.heap.size := by omega
            have zb_w5_1 : bd + 1 < w5.heap.size := by omega
            have zb_w5_2 : wr.heap.size < w5.heap.size := by omega
            have zb_w5_3 : g < w5.heap.size := by omega
            go_wp2_with fail
            rw [rounds_succ]
            go_wp2
            go_roundw
            case rel =>
              have hb45 := hb_w4.trans hu_w5
              refine ⟨j + 1, _, _, _, by omega, by omega, by go_num, hMM3.out.up hb45 y4, hHH3.out.kept (Keep.of_up (E := fun _ => False) hb45) y1 (by simp), hDD3.out.kept (Keep.of_up (E := fun _ => False) hb45) y2 (by simp), fun o => ?_, hK3.out.up hb45⟩
              obtain ⟨r0, r1, r2⟩ := HDL.out o
              by_cases e : o = k
              · subst e; simp only [if_true]; omega
              · simp only [if_neg e]; omega
            case measure => simp [intOf]; omega
      · have h60' : 60 ≤ j := by omega
        clear h60 hx hcl hwx hm hH hD
        go_wp2
        go_ret
        exact ⟨rfl, (hUd.keep hk (by intro i hi; omega)).alloc _⟩
    · clear hm hH hD
      go_wp2
      go_ret
      exact ⟨rfl, hUd.keep hk (by intro i hi; omega)⟩
end Go.Proofs.Ytmnepolfiipfcaa
