/-
  The walk of law 21's SfieldReads. Condition: write's table lies as the row lists it.
-/
import Derived.Test.YtfambgigdhkiaaaDoorLaw21a0
namespace Go.Proofs.YtfambgigdhkiaaaDoor
open Go.RowKit
set_option linter.unusedVariables false
set_option linter.unusedSimpArgs false

set_option maxRecDepth 100000 in
set_option maxHeartbeats 12800000 in
theorem law_reads (A : Option Addr) (n c : Nat) (L : List Int) (t : Int) (w : World) (hl : L.length = n) (hn : n ≤ c) (hc : c ≤ maxLen) (hw : ∀ x ∈ L, 0 ≤ x ∧ x ≤ 255) (hr : Reads w w.heap.size 1 A n (L.map (Value.int .u8))) (t0 : 0 ≤ t) (t1 : t ≤ 255) (hT : TabW w) :
    Calls Tryd.prog 5 #[.slice A n c, .int .u8 t] w fun x w' => x = .returned (.bool true) ∧ Up w w' := by
  obtain ⟨j0, hi, hz0, hz1, hz2⟩ := info_parts info_rf
  have HR := Lib.hid hr
  have HW := Lib.hid hw
  have HT := Lib.hid hT
  clear hr hw hl hT
  go_enter Tryd.func5, Tryd.ntmps5
  go_wp2_with fail
  refine (awake21 _ HT.out).mono ?_
  rintro e wa ⟨rfl, ua⟩
  have UA := Lib.hid ua
  clear ua
  go_wp2_with fail
  refine (cut_sl (HR.out.up UA.out) HW.out hn hc 500 (by omega)).mono ?_
  rintro e wb ⟨Ap, cp, rfl, hp, -, ub⟩
  obtain ⟨p, hpe⟩ : ∃ p, L.take 500 = p := ⟨_, rfl⟩
  rw [hpe] at hp
  rw [hpe]
  have hp3 : p.length ≤ 500 := by rw [← hpe, List.length_take]; omega
  have HP := Lib.hid hp
  have UB := Lib.hid (UA.out.trans ub)
  clear hp ub hpe
  go_wp2_with fail
  refine (copy_any _ _ _ p _ HP.out.rd (by omega)).mono ?_
  rintro e wc ⟨Am, cm, rfl, om, mle, mmx, uc⟩
  have OM := Lib.hid om
  have HM := Lib.hid (Sl.of_own om mle mmx (by omega) HP.out.bytes)
  have UC := Lib.hid (UB.out.trans uc)
  have HP2 := Lib.hid (HP.out.up uc)
  have hmb : ∀ g, (Value.slice Am p.length cm).ownBlock = some g → g < wc.heap.size := fun g hg => (own_bd om g hg).2
  have hmb0 : ∀ g, (Value.slice Am p.length cm).ownBlock = some g → w.heap.size ≤ g := fun g hg => Nat.le_trans UB.out.size (own_bd om g hg).1
  have HMB := Lib.hid hmb
  have HMB0 := Lib.hid hmb0
  clear om mle mmx uc hmb hmb0
  go_wp2_with fail
  refine (rall_is HP2.out).mono ?_
  rintro e w1 ⟨AW, cW, xsW, rfl, fW, mW, u1⟩
  have FW := Lib.hid fW
  have MW := Lib.hid mW
  have U1 := Lib.hid u1
  clear fW mW u1
  go_wp2_with fail
  refine (lfields_is (most := 10000) (HM.out.up U1.out) (by omega) (by omega)).mono ?_
  rintro e w2 ⟨AG, cG, xsG, rfl, fG, mG, u2⟩
  rw [fldsM_big (show p.length < 10000 by omega)] at mG ⊢
  have FG := Lib.hid (fG.low U1.out.size)
  have MG := Lib.hid mG
  have U2 := Lib.hid (U1.out.trans u2)
  have FW2 := Lib.hid (FW.out.up u2)
  clear fG mG u2
  go_wp2_with fail
  refine (sall_is (HM.out.up U2.out)).mono ?_
  rintro e w3 ⟨AA, cA, xsA, rfl, fA, mA, u3⟩
  have FA := Lib.hid (fA.low U2.out.size)
  have MA := Lib.hid mA
  have U3 := Lib.hid (U2.out.trans u3)
  have FG3 := Lib.hid (FG.out.up u3)
  have FW3 := Lib.hid (FW2.out.up u3)
  clear fA mA u3
  obtain ⟨N, hN⟩ : ∃ N, xsA.length = N := ⟨_, rfl⟩
  have hlA := congrArg List.length MA.out
  rw [List.length_map, hN] at hlA
  have hN5 : N ≤ 500 := by have := flds_len p; omega
  obtain ⟨ge, hge⟩ : ∃ ge, (fldsOf p).2 = ge := ⟨_, rfl⟩
  rw [hge, hN]
  have HNN := Lib.hid hN
  have HLA := Lib.hid hlA
  have HGE := Lib.hid hge
  clear hN hge hlA
  go_wp2_with fail
  go_loopw [12, 50] (fun v i wr => ∃ (j : Nat) (A1 : Option Addr) (c1 m1 : Nat), i = .int .i64 (j : Int) ∧ v = .slice A1 m1 c1 ∧ j ≤ N ∧ m1 = j ∧ wr.ownsRow w3.heap.size 43 2 (.slice A1 m1 c1) m1 ((xsA.take j).flatMap RF.cells) ∧ m1 ≤ c1 ∧ c1 ≤ maxLen ∧ Up w3 wr) (fun _ i _ => N - (intOf i).toNat)
  case atStart => exact ⟨0, none, 0, 0, rfl, rfl, Nat.zero_le _, rfl, World.ownsRow_nil _ _ _ _, Nat.le_refl _, by simp [maxLen], Up.refl _⟩
  case round =>
    obtain ⟨j, A1, c1, m1, rfl, rfl, hj, hmj, ho1, hle1, hmx1, hup⟩ := hrel
    have HMJ := Lib.hid hmj
    have hown := Lib.hid ho1
    have HUP := Lib.hid hup
    have hq1 : m1 + 1 ≤ maxLen := by simp [maxLen]; omega
    have hq2 : (m1 + 1) * 32 ≤ 140737488355328 := by omega
    have hw3 : w3.heap.size ≤ wr.heap.size := HUP.out.size
    clear hmj ho1 hup
    by_cases hlt : j < N
    · obtain ⟨x, hx⟩ : ∃ x, xsA[j]? = some x := ⟨_, List.getElem?_eq_getElem (by have := HNN.out; omega)⟩
      obtain ⟨b, hAb, hb, x0, x1, sx⟩ := rf_at FA.out hx
      subst hAb
      replace x0 := ((HUP.out.at_ b hb).1 _).trans x0
      replace x1 := ((HUP.out.at_ b hb).1 _).trans x1
      replace hb : b < wr.heap.size := by omega
      have HX := Lib.hid hx
      have SX := Lib.hid sx
      clear sx hx
      have hlt' : (j : Int) < N := by omega
      obtain ⟨r, hr⟩ : ∃ r, actOf x.id x.l = r := ⟨_, rfl⟩
      have hact := Lib.hid (fun w' (hu : Up w3 w') => act_is (id := x.id) (HT.out.up ((UC.out.trans U3.out).trans hu)) (SX.out.up hu))
      have hof := Lib.hid (fun w' (hu : Up w3 w') => rof_is (id := x.id) (SX.out.up hu))
      rw [hr] at hact hof
      clear hr
      go_wp2_with (first | (at_builtin; refine wpList_app _ rfl (.tmp 54) (.tmp 56) 31 rfl w3.heap.size 43 j0 _ 2 32 Tryd.underlying31 hi hz0 hz1 hz2 rfl (by decide) A1 m1 c1 ((xsA.take j).flatMap RF.cells) rfl (own_up hown.out (((Up.refl wr).alloc _).alloc _)) _ (some ⟨wr.heap.size + 1, 0, none⟩) 1 1 [.int .u8 x.id, .slice x.A x.l.length x.c] rfl (reads_at (wr.alloc (.cells #[.int .u8 x.id, .slice x.A x.l.length x.c] 40)) (wr.heap.size + 1) 2 1 _ _ rfl (by simp)) (by simp [Value.oneCell']) hq1 hq2 (by simp; omega) ?_; intro A3 c3 w4 hown4 hg4 hle4 hmx4 hbl4; have HO4 := Lib.hid hown4; have HG4 := Lib.hid hg4; have U4 := Lib.hid (show Up w3 w4 from ((HUP.out.alloc _).alloc _).past hbl4); obtain ⟨gc, gf⟩ := grown_at hg4 wr.heap.size (by simp; omega) (fun e => by have := (own_bd hown.out _ e).2; omega); have q0 : w4.cell? ⟨wr.heap.size, 0, none⟩ = some (.int .u8 x.id) := (gc 0).trans (by simp [go_sem]); have q1 : w4.cell? ⟨wr.heap.size, 1, none⟩ = some (.slice x.A x.l.length x.c) := (gc 1).trans (by simp [go_sem]); have hz4 := hg4.size; (try simp at hz4); have q2 : wr.heap.size < w4.heap.size := (by omega); clear hown4 hg4 hbl4 gc gf) | (go_at_call 20; refine (hact.out _ U4.out).mono ?_; rintro e w5 ⟨B1, d1, B2, d2, rfl, s1, s2, u5⟩; obtain ⟨gc, gf⟩ := u5.at_ wr.heap.size q2; have p0 := (gc 0).trans q0; have p1 := (gc 1).trans q1; have hz5 := u5.size; have p2 : wr.heap.size < w5.heap.size := (by omega); have S1 := Lib.hid s1; have S2 := Lib.hid s2; have U5 := Lib.hid (U4.out.trans u5); have U45 := Lib.hid u5; clear s1 s2 u5 gc gf; unfold actV) | (go_at_call 21; refine (hof.out _ (U5.out.alloc _)).mono ?_; rintro e w6 ⟨B3, d3, B4, d4, rfl, s3, s4, u6⟩; have hz6 := u6.size; (try simp at hz6); obtain ⟨gc, gf⟩ := u6.at_ w5.heap.size (by simp); have n0 := gc 0; have n1 := gc 1; have n2 := gc 2; have n3 := gc 3; have n4 := gc 4; have n5 := gc 5; have n6 := gc 6; simp [go_sem] at n0 n1 n2 n3 n4 n5 n6; have p3 : w5.heap.size < w6.heap.size := (by omega); have S3 := Lib.hid s3; have S4 := Lib.hid s4; have V6 := Lib.hid (show Up w5 w6 from ((Up.refl w5).alloc _).trans u6); clear s3 s4 u6 gc gf; unfold actV) | (go_at_call 22; refine (rsame_eq (S1.out.up (V6.out.alloc _)) (S2.out.up (V6.out.alloc _)) (S3.out.up ((Up.refl w6).alloc _)) (S4.out.up ((Up.refl w6).alloc _))).mono ?_; rintro e w7 ⟨rfl, u7⟩; have U7 := Lib.hid ((U5.out.trans V6.out).alloc _ |>.trans u7); have U47 := Lib.hid ((U45.out.trans V6.out).alloc _ |>.trans u7); clear u7))
      go_roundw
      case rel => exact ⟨j + 1, A3, c3, m1 + 1, by first | rfl | go_num, rfl, by omega, by rw [HMJ.out], by rw [take_snoc HX.out, List.flatMap_append]; exact own_up HO4.out U47.out, hle4, hmx4, U7.out⟩
      case measure => simp [intOf]; omega
    · obtain rfl : j = N := by omega
      have hTN := List.take_of_length_le (l := xsA) (i := j) (by rw [HNN.out]; exact Nat.le_refl _)
      have HTOLD : Hid (FL 43 2 RF.cells RF.inn wc.heap.size wr A1 c1 xsA) := by
        show FL _ _ _ _ _ _ _ _ _
        have ho := hown.out
        rw [hTN, HMJ.out] at ho
        exact ⟨by rw [HNN.out]; exact own_base ho U3.out.size, by rw [HNN.out, ← HMJ.out]; exact hle1, hmx1, fun x hx s hs => (FA.out.good x hx s hs).up HUP.out⟩
      clear hTN
      obtain ⟨k, hk⟩ : ∃ k : Nat, 1 + t % 3 = (k : Int) := ⟨(1 + t % 3).toNat, by omega⟩
      have hk3 : 0 < k ∧ k ≤ 3 := by omega
      have m0 : t.tmod 3 = t % 3 := Int.tmod_eq_emod_of_nonneg t0
      have HMW := Lib.hid (HM.out.up (U3.out.trans HUP.out))
      have HPW := Lib.hid (HP2.out.up (U3.out.trans HUP.out))
      go_wp2_with fail
      try rw [hk]
      have HK := Lib.hid hk
      clear m0 hk
      refine (lfields_is (most := k) HMW.out hk3.1 (by omega)).mono ?_
      rintro e w8 ⟨AE, cE, xsE, rfl, fE, mE, u8⟩
      have FE := Lib.hid (fE.low (show wc.heap.size ≤ wr.heap.size from (U3.out.trans HUP.out).size))
      have ME := Lib.hid mE
      have U8 := Lib.hid ((U3.out.trans HUP.out).trans u8)
      have FW8 := Lib.hid ((FW3.out.up HUP.out).up u8)
      have FG8 := Lib.hid ((FG3.out.up HUP.out).up u8)
      have FT8 := Lib.hid (HTOLD.out.up u8)
      clear fE mE u8
      go_wp2_with fail
      refine (sacts_is (HT.out.up (UC.out.trans U8.out)) (HM.out.up U8.out)).mono ?_
      rintro e w9 ⟨AL, cL, ys, rfl, fL, mL, u9⟩
      have FLL := Lib.hid (fL.low U8.out.size)
      have ML := Lib.hid mL
      have U9 := Lib.hid (U8.out.trans u9)
      have FW9 := Lib.hid (FW8.out.up u9)
      have FG9 := Lib.hid (FG8.out.up u9)
      have FT9 := Lib.hid (FT8.out.up u9)
      have FE9 := Lib.hid (FE.out.up u9)
      clear fL mL u9
      go_wp2_with fail
      refine (racts_is (HP2.out.up U9.out)).mono ?_
      rintro e w10 ⟨AR, cR, zs, rfl, fR, mR, u10⟩
      have FR := Lib.hid (fR.low U9.out.size)
      have MR := Lib.hid mR
      have U10 := Lib.hid (U9.out.trans u10)
      have FW10 := Lib.hid (FW9.out.up u10)
      have FG10 := Lib.hid (FG9.out.up u10)
      have FT10 := Lib.hid (FT9.out.up u10)
      have FE10 := Lib.hid (FE9.out.up u10)
      have FL10 := Lib.hid (FLL.out.up u10)
      clear fR mR u10
      go_wp2_with fail
      refine (flip_any _ _ _ _ p _ (own_up OM.out U10.out) (by omega)).mono ?_
      rintro e w11 ⟨rfl, hfp⟩
      have GW := Lib.hid (FW10.out.beside hfp HMB.out)
      have GG := Lib.hid (FG10.out.beside hfp HMB.out)
      have GT := Lib.hid (FT10.out.beside hfp HMB.out)
      have GE := Lib.hid (FE10.out.beside hfp HMB.out)
      have GL := Lib.hid (FL10.out.beside hfp HMB.out)
      have GR := Lib.hid (FR.out.beside hfp HMB.out)
      have U11 := Lib.hid (Up.grown (UC.out.trans U10.out) hfp HMB0.out)
      clear hfp
      obtain ⟨he, hhe⟩ : ∃ he, (actsOf p).2 = he := ⟨_, rfl⟩
      obtain ⟨M, hM⟩ : ∃ M, (actsOf p).1.length = M := ⟨_, rfl⟩
      have hyM : ys.length = M := by have := congrArg List.length ML.out; rw [List.length_map] at this; omega
      have hzM : zs.length = M := by have := congrArg List.length MR.out; rw [List.length_map] at this; omega
      rw [hhe, hyM, hzM]
      have hM64 : M ≤ 9223372036854775807 := by have h1 := GL.out.le; have h2 := GL.out.mx; simp [maxLen] at h2; omega
      have HYM := Lib.hid hyM
      have HZM := Lib.hid hzM
      have hWN : xsW.length = j := by have := congrArg List.length (MW.out.trans MA.out.symm); rw [List.length_map, List.length_map, HNN.out] at this; exact this
      have HWN := Lib.hid hWN
      have hcw : xsW.length ≤ cW := GW.out.le
      clear hhe hM hyM hzM hWN
      go_wp2_with fail
      refine (lsame_is GG.out GW.out rfl rfl).mono ?_
      rintro e w12 ⟨rfl, u12⟩
      rw [decide_eq_true (MG.out.trans MW.out.symm)]
      have U12 := Lib.hid u12
      clear u12
      go_wp2_with fail
      refine (lsame_is (GT.out.up U12.out) (GW.out.up U12.out) (by rw [HNN.out, HMJ.out]) rfl).mono ?_
      rintro e w13 ⟨rfl, u13⟩
      rw [decide_eq_true (MA.out.trans MW.out.symm)]
      have U13 := Lib.hid (U12.out.trans u13)
      clear u13
      go_wp2_with fail
      all_goals
        refine Calls.mono (lsame_is (GE.out.up U13.out) ((GW.out.up U13.out).take (fun _ => rfl) (m := min xsW.length k) (Nat.min_le_left _ _)) rfl (by rw [List.length_take]; omega)) ?_
        rintro e w14 ⟨rfl, u14⟩
        rw [decide_eq_true (show xsE.map RF.bare = (xsW.take (min xsW.length k)).map RF.bare by rw [ME.out, fldsM_take, ← MW.out, List.map_take, List.length_map])]
        have U14 := Lib.hid (U13.out.trans u14)
        clear u14
        go_wp2_with fail
        go_loopw [145] (fun q wr => ∃ i : Nat, i ≤ M ∧ q = .int .i64 (i : Int) ∧ Up w14 wr) (fun q _ => M - (intOf q).toNat)
        case atStart => exact ⟨0, Nat.zero_le _, rfl, Up.refl _⟩
        case round =>
          obtain ⟨i, hi', rfl, hu⟩ := hrel
          have HUU := Lib.hid hu
          clear hu
          by_cases hlt2 : i < M
          · obtain ⟨y, hy⟩ : ∃ y, ys[i]? = some y := ⟨_, List.getElem?_eq_getElem (by have := HYM.out; omega)⟩
            obtain ⟨z, hz⟩ : ∃ z, zs[i]? = some z := ⟨_, List.getElem?_eq_getElem (by have := HZM.out; omega)⟩
            have haz : z.a = y.a := by
              have h1 := congrArg (fun l => l[i]?) (ML.out.trans MR.out.symm)
              simp only [List.getElem?_map, hy, hz, Option.map_some, Option.some.injEq] at h1
              exact h1.symm
            obtain ⟨g, hAL, hg, cy, iy⟩ := ea_at (GL.out.up (U14.out.trans HUU.out)) hy
            obtain ⟨g', hAR, hg', cz, iz⟩ := ea_at (GR.out.up (U14.out.trans HUU.out)) hz
            subst hAL hAR
            have a0 := cy 0 _ rfl
            have a1 := cy 1 _ rfl
            have a2 := cy 2 _ rfl
            have a3 := cy 3 _ rfl
            have a4 := cy 4 _ rfl
            have a5 := cy 5 _ rfl
            have a6 := cy 6 _ rfl
            have b0 := cz 0 _ rfl
            have b1 := cz 1 _ rfl
            have b2 := cz 2 _ rfl
            have b3 := cz 3 _ rfl
            have b4 := cz 4 _ rfl
            have b5 := cz 5 _ rfl
            have b6 := cz 6 _ rfl
            have sy1 := iy _ (List.mem_cons_self ..)
            have sy2 := iy _ (List.mem_cons_of_mem _ (List.mem_cons_self ..))
            have sz1 := iz _ (List.mem_cons_self ..)
            have sz2 := iz _ (List.mem_cons_of_mem _ (List.mem_cons_self ..))
            rw [haz] at b0 b1 b2 b3 b4 b5 b6 sz1 sz2
            rw [Nat.add_zero] at a0 b0
            have SS := Lib.hid (fun w' (hu : Up wr w') => rsame_eq (k := y.a.kind) (cm := y.a.cmd) (m := y.a.mode) (rq := y.a.req) (al := y.a.alt) (sy1.up hu) (sy2.up hu) (sz1.up hu) (sz2.up hu))
            have hlt2' : (i : Int) < M := by omega
            have hU := HUU.out
            clear cy cz iy iz sy1 sy2 sz1 sz2 hy hz haz
            go_wp2
            refine wp_region_up_lit (by kernel_rfl) (by kernel_rfl) ?_
            repeat (go_big_quiet_step ((go_at_call 22; exact up_call (SS.out _ (up_upOf _ _)))))
            refine wpQuiet_nil ?_
            rintro w15 ⟨W_w15, hw_w15⟩
            have hb_w15 : Up _ w15 := hw_w15 ▸ up_upOf _ _
            clear hw_w15 W_w15
            have hu_w15 : Up wr w15 := by (repeat (first | with_reducible exact Up.refl _ | with_reducible refine Up.alloc ?_ _ | with_reducible refine Up.drew ?_ | with_reducible refine Up.drewN ?_ _ | with_reducible refine Up.setCell ?_ (by (try simp) <;> omega) _ | with_reducible assumption | with_reducible refine Up.trans ?_ (by assumption)))
            have hz_w15 := Up.size hb_w15
            try simp at hz_w15
            go_wp2_with fail
            go_roundw
            case rel => exact ⟨i + 1, by omega, by go_num, hU.trans hu_w15⟩
            case measure => simp [intOf]; omega
          · obtain rfl : i = M := by omega
            go_wp2
            go_ret
            exact ⟨rfl, U11.out.trans (U14.out.trans HUU.out)⟩
end Go.Proofs.YtfambgigdhkiaaaDoor
