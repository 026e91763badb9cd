/-
  EraseBack. No condition.
-/
import Derived.Test.YtjokcfenncogkaaBack14
import Derived.Test.YtjokcfenncogkaaEqI13
import Derived.BigQuiet
namespace Go.Proofs.Ytjokcfenncogkaa
open Go.RowKit Go.Shelf
set_option linter.unusedVariables false
set_option linter.unusedSimpArgs false
attribute [local go_sem] Oper.semAt_some

theorem OwnI.cellB {w w1 : World} {L : List Int} {A : Option Addr} {n c B : Nat} (h : OwnI B w1 A n c L) (h0 : 0 < n) : ∃ b off, A = some ⟨b, off, none⟩ ∧ b < w1.heap.size ∧ ∀ W, Up w1 W → ∀ t, t < n → W.cell? ⟨b, off + t, none⟩ = some (.int .i64 (L.getD t 0)) := by
  have hl := h.len
  have hr := h.reads
  obtain ⟨b, off, rfl, hb⟩ := hr.form (by omega)
  obtain ⟨_, hb2⟩ := h.at_ _ rfl
  refine ⟨b, off, rfl, hb2, fun W hu t ht => ?_⟩
  have hrd := hr.up hu
  obtain ⟨_, u, hu2, hcl⟩ := hrd.at_ (j := t) (by omega)
  unfold ns at hu2
  rw [List.getElem?_map, List.getElem?_eq_getElem (by omega)] at hu2
  rw [hcl, ← hu2, List.getD, List.getElem?_eq_getElem (by omega)]; rfl
theorem OwnI.cellC {w1 : World} {L : List Int} {b off n c B : Nat} (h : OwnI B w1 (some ⟨b, off, none⟩) n c L) : ∀ W, Up w1 W → ∀ t, t < n → W.cell? ⟨b, off + t, none⟩ = some (.int .i64 (L.getD t 0)) := by
  intro W hu t ht
  obtain ⟨b', off', he, _, h2⟩ := h.cellB (w := w1) (by omega)
  injection he with he
  injection he with e1 e2 _
  subst e1 e2
  exact h2 W hu t ht
set_option maxRecDepth 100000 in
set_option maxHeartbeats 12800000 in
theorem law_back (m : Int) (A : Option Addr) (n cap : Nat) (l : List ActR) (nn c : Int) (w : World) (m0 : 0 ≤ m) (m1 : m ≤ 255) (hl : l.length = n) (hn : n ≤ cap) (hc : cap ≤ maxLen) (hok : ∀ x ∈ l, x.Ok w w.heap.size) (hr : Reads w w.heap.size 11 A n (l.flatMap ActR.enc))
    (n0 : -9223372036854775808 ≤ nn) (n1 : nn ≤ 9223372036854775807) (c0 : 0 ≤ c) (c1 : c ≤ 255) :
    Calls Try.prog 15 #[.int .u8 m, .slice A n cap, .int .i64 nn, .int .u8 c] w fun e w' => e = .returned (.bool true) ∧ Up w w' := by
  have fC := fldC0
  have HWF := Lib.hid (show ∀ a ∈ plains l, a.Wf from fun a ha => by simp only [plains, List.mem_map] at ha; obtain ⟨x, hx, rfl⟩ := ha; exact (hok x hx).wf)
  have HOK := Lib.hid (layS_ok m0 HWF.out)
  have HLY := Lib.hid (fun W (hu : Up w W) => lay14_is (B := w.heap.size) (w := W) m0 m1 hu.size (hr.below hu) hl hn hc (fun x hx => (hok x hx).keep hu))
  have HCB := Lib.hid (show isB c from ⟨c0, c1⟩)
  clear hok hr hl HWF
  go_enter Try.func15, Try.ntmps15
  go_wp2_with fail
  refine (awake14 _).mono ?_
  rintro e w0 ⟨rfl, hu0⟩
  have HU0 := Lib.hid hu0
  have z0 := hu0.size
  clear hu0
  go_wp2_with fail
  refine (HLY.out _ HU0.out).mono ?_
  rintro e w1 ⟨p, g, q, h, rfl, hs, hr, ⟨e1, e2, e3, e4, e5, e6, e7, e8⟩, hu1⟩
  obtain ⟨X, hX⟩ : ∃ X, layS m (plains l) = X := ⟨_, rfl⟩
  rw [hX] at hs hr HOK
  have HU1 := Lib.hid (HU0.out.trans hu1)
  have HS1 := Lib.hid hs
  have HR1 := Lib.hid hr
  have HNE := Lib.hid (show (¬ two p g q ∧ ¬ two p g h) ∧ ∀ k, two p g k → w.heap.size ≤ k from
    ⟨⟨fun e => by rcases e with e | e <;> omega, fun e => by rcases e with e | e <;> omega⟩, fun k hk => by rcases hk with e | e <;> omega⟩)
  clear hs hr hu1 hX HLY e1 e2 e3 e4 e5 e6 e7 e8
  have hsm := HOK.out.small
  go_wp2_with fail
  refine (rrow_is nn HR1.out HOK.out).mono ?_
  rintro e w2 ⟨A0, k0, rfl, hown0, hu2⟩
  have HU2 := Lib.hid (HU1.out.trans hu2)
  have HS2 := Lib.hid (HS1.out.up hu2)
  have HR2 := Lib.hid (HR1.out.up hu2)
  have hk0 : (k0 : Int) ≤ 9223372036854775807 := by have := hown0.mx; simp [maxLen] at this; omega
  have hle0 := hown0.le
  have hrl := row_len HOK.out nn
  have HOW0 := Lib.hid hown0
  have HCR := Lib.hid (fun W (h' : SAt W p g X) b b2 (hb : W.cell? ⟨b, 0, none⟩ = some (.pointer (some ⟨p, 0, none⟩))) (hb2 : W.cell? ⟨b2, 0, none⟩ = some (.int .i64 nn)) => collect_row h' HOK.out hb hb2)
  have HGD := Lib.hid (good_row HOK.out nn)
  have HIT := Lib.hid (fun e' (hn' : X.isA nn = false) (h0 : 0 < (X.row nn).length) => ins_there HOK.out HCB.out e' hn' h0)
  have HBK := Lib.hid (fun e' e he' he h1 h2 j hj => back_is HOK.out (n := nn) HCB.out (e' := e') (e := e) he' he h1 h2 (j := j) hj)
  have HEQ := Lib.hid (fun W B B' A A' (ca cb : Nat) (h1 : OwnI B W A (X.row nn).length ca (X.row nn)) (h2 : OwnI B' W A' (X.row nn).length cb (X.row nn)) => equal_own h1 h2 (by omega))
  obtain ⟨L, hL⟩ : ∃ L, X.row nn = L := ⟨_, rfl⟩
  rw [hL] at HOW0 HCR HGD HIT HBK HEQ hle0 hrl ⊢
  obtain ⟨len, hlen⟩ : ∃ len, L.length = len := ⟨_, rfl⟩
  have HLN := Lib.hid hlen
  rw [hlen] at HOW0 HCR HIT HBK HEQ hle0 hrl ⊢
  clear hown0 hu2 hL hlen
  rcases Nat.eq_zero_or_pos len with hz | hz
  · subst hz
    go_wp2_with fail
    refine (row_val _ _ _).mono ?_
    rintro e w3 ⟨bt, bt2, rfl, -, -, -, -, hcb, hcb2, hu3⟩
    have HU3 := Lib.hid (HU2.out.trans hu3)
    have HS3 := Lib.hid (HS2.out.up hu3)
    clear hu3
    go_wp2_with fail
    refine (HCR.out _ HS3.out _ _ hcb hcb2).mono ?_
    rintro e w4 ⟨A4, c4, rfl, -, hu4⟩
    have HU4 := Lib.hid (HU3.out.trans hu4)
    clear hu4 hcb hcb2
    go_wp2_with fail
    go_ret
    exact ⟨ret_bool (by simp), HU4.out⟩
  · have hz' : ((len : Int) == 0) = false := by simp; omega
    go_wp2_with fail
    refine (row_val _ _ _).mono ?_
    rintro e w3 ⟨bt, bt2, rfl, -, -, -, -, hcb, hcb2, hu3⟩
    have HU3 := Lib.hid (HU2.out.trans hu3)
    have HS3 := Lib.hid (HS2.out.up hu3)
    have HOW3 := Lib.hid (HOW0.out.up hu3)
    have HR3 := Lib.hid (HR2.out.up hu3)
    clear hu3
    go_wp2_with fail
    refine (HCR.out _ HS3.out _ _ hcb hcb2).mono ?_
    rintro e w4 ⟨A4, c4, rfl, hown4, hu4⟩
    have HU4 := Lib.hid (HU3.out.trans hu4)
    have HS4 := Lib.hid (HS3.out.up hu4)
    have HR4 := Lib.hid (HR3.out.up hu4)
    have HOW4 := Lib.hid (HOW3.out.up hu4)
    have HQ := Lib.hid (HEQ.out _ _ _ _ _ _ _ hown4 HOW4.out)
    clear hu4 hcb hcb2 hown4
    go_wp2_with fail
    refine HQ.out.mono ?_
    rintro e w5 ⟨rfl, hu5⟩
    have HU5 := Lib.hid (HU4.out.trans hu5)
    have HS5 := Lib.hid (HS4.out.up hu5)
    have HR5 := Lib.hid (HR4.out.up hu5)
    have HOW5 := Lib.hid (HOW4.out.up hu5)
    clear hu5
    obtain ⟨b, off, rfl, hb, hcl⟩ := HOW5.out.cellB (w := w) hz
    have HCL := Lib.hid hcl
    have HAT := Lib.hid (fun j (hj : j < len) => show ∃ k : Nat, L.getD j 0 = (k : Int) ∧ k < X.L.length ∧ X.L[k]? = some (X.at_ (k : Int)) from by
      have h1 := HGD.out.bd _ (at_mem (show j < L.length by rw [HLN.out]; exact hj))
      have h2 := HOK.out.len
      exact ⟨(L.getD j 0).toNat, by omega, by omega, Spc.at_nat HOK.out (by omega)⟩)
    clear hcl
    go_wp2_with fail
    go_loopw [12, 13, 54] (fun v u i wr => ∃ (j : Nat) (a bb : Bool), j ≤ len ∧ v = .bool a ∧ u = .bool bb ∧ i = .int .i64 (j : Int) ∧ SawN (fun i => (X.at_ (L.getD i 0)).ch) j a bb ∧ Up w5 wr) (fun _ _ i _ => len - (intOf i).toNat)
    case atStart => exact ⟨0, false, false, by omega, rfl, rfl, rfl, SawN.zero _, Up.refl _⟩
    case round =>
      obtain ⟨j, a, bb, hj, rfl, rfl, rfl, hsaw, huj⟩ := hrel
      have HUJ := Lib.hid huj
      have HSW := Lib.hid hsaw
      have zbj : b < wr.heap.size := by have := huj.size; omega
      by_cases hlt : j < len
      · obtain ⟨kx, hkx, hkl, hkat⟩ := HAT.out j hlt
        have hx0 := HCL.out wr huj j hlt
        have HSX := Lib.hid hsaw
        rw [hkx] at hx0
        have HFE := Lib.hid (show (X.at_ (L.getD j 0)).ch = (X.at_ (kx : Int)).ch by rw [hkx])
        obtain ⟨d, hd⟩ : ∃ d, X.at_ (kx : Int) = d := ⟨_, rfl⟩
        rw [hd] at HFE hkat
        have hrw := HR5.out.up huj
        have y0 := (hrw.cells.2.2 kx d hkat).h0
        obtain ⟨cap4, q1, q2, k4⟩ := hrw.h4
        have zp := hrw.lt
        have zg := hrw.cells.2.1
        obtain ⟨ml, hml⟩ : ∃ ml, X.L.length = ml := ⟨_, rfl⟩
        rw [hml] at q1 k4 hkl hsm
        have hcp : (cap4 : Int) ≤ 9223372036854775807 := by simp [maxLen] at q2; omega
        have hjn : (j : Int) < (len : Int) := by omega
        have hkn : (kx : Int) < (ml : Int) := by omega
        obtain ⟨dch, da, dfa, dhi, dco, dse⟩ := d
        simp only at y0 HFE
        clear hkat hd hrw q2 huj hsaw hkx hml
        by_cases hx : dch = 0
        · subst hx
          cases a <;> cases bb
          all_goals
            go_wp2_with fail
            go_roundw
            case rel => exact ⟨j + 1, _, _, by omega, rfl, rfl, by go_num, HSW.out.null HFE.out, HUJ.out⟩
            case measure => simp [intOf]; omega
        · have hx1 : (dch == 0) = false := by simpa using hx
          have hx2 : (dch != 0) = true := by simpa using hx
          have HX := Lib.hid hx
          clear hx
          cases a <;> cases bb
          all_goals
            go_wp2_with fail
            go_roundw
            case rel => exact ⟨j + 1, _, _, by omega, rfl, rfl, by go_num, by first | exact HSW.out.none (by rw [HFE.out]; exact HX.out) | exact SawN.bad, HUJ.out⟩
            case measure => simp [intOf]; omega
      · obtain rfl : len = j := by omega
        have HU6 := Lib.hid (HU5.out.trans huj)
        have HS6 := Lib.hid (HS5.out.up huj)
        have HR6 := Lib.hid (HR5.out.up huj)
        clear hsaw huj
        cases a
        · go_wp2_with fail
          go_ret
          exact ⟨ret_bool (by simp), HU6.out⟩
        cases bb
        case true =>
          go_wp2_with fail
          go_ret
          exact ⟨ret_bool (by simp), HU6.out⟩
        obtain ⟨e0, he0, h1, h2⟩ := HSW.out.2 rfl rfl
        have HE1 := Lib.hid h1
        have HE2 := Lib.hid h2
        have HE0 := Lib.hid he0
        have HOW6 := Lib.hid (HOW5.out.up HUJ.out)
        have HPB := Lib.hid (show ∀ p' : Addr, some (⟨b, off, none⟩ : Addr) = some p' → ¬ two p g p'.block from by
          intro p' hp'
          injection hp' with hp'
          subst hp'
          have h3 := (HOW5.out.at_ _ rfl).1
          have h4 := HS1.out.lt
          have h5 := HS1.out.cells.2.1
          intro hh
          rcases hh with hh | hh <;> simp only at hh h3 <;> omega)
        clear he0 h1 h2
        by_cases hop : X.open_ nn = true
        · cases hnu : X.nul (X.roundL nn) with
          | none =>
            have HI := Lib.hid (cins_full (x := c) HS6.out HOK.out hop hnu)
            clear hop hnu
            go_wp2_with fail
            refine HI.out.mono ?_
            rintro e w7 ⟨rfl, hu7⟩
            have HU7 := Lib.hid (HU6.out.trans hu7)
            clear hu7
            go_wp2_with fail
            go_ret
            exact ⟨ret_bool (by simp), HU7.out⟩
          | some e' =>
            have HI := Lib.hid (cins_yes HCB.out HS6.out HOK.out hop hnu)
            have HTH := HIT.out e' (open_isA hop) hz
            have HBB := Lib.hid (fun j hj => HBK.out e' e0 hnu HE0.out HE1.out HE2.out j hj)
            have HOY := Lib.hid (insA_ok HOK.out nn HCB.out e')
            have HPY := Lib.hid ((insA_open HOK.out nn HCB.out e').trans hop)
            obtain ⟨Y, hY⟩ : ∃ Y, X.insA nn c e' = Y := ⟨_, rfl⟩
            rw [hY] at HI HTH HBB HOY HPY
            have HOZ := Lib.hid (delA_ok HOY.out nn)
            have HDY := Lib.hid (fun W (h' : SAt W p g Y) => cdel_yes h' HOY.out HPY.out)
            obtain ⟨Z, hZ⟩ : ∃ Z, Y.delA nn = Z := ⟨_, rfl⟩
            rw [hZ] at HBB HOZ HDY
            obtain ⟨dy, hdy⟩ : ∃ dy, Y.at_ nn = dy := ⟨_, rfl⟩
            have HAY := Lib.hid (fun W (h' : SAt W p g Y) => sat_op nn h' HOY.out hdy)
            rw [hdy] at HTH
            obtain ⟨ych, ya, yfa, yhi, yco, yse⟩ := dy
            simp only at HTH HAY
            subst HTH
            have hyy : (ych != ych) = false := by simp
            clear hop hnu hY hZ hdy
            go_wp2_with fail
            refine HI.out.mono ?_
            rintro e w7 ⟨rfl, hs7, hk7⟩
            have HS7 := Lib.hid hs7
            have HR7 := Lib.hid (HR6.out.held hk7 HNE.out.1.1 HNE.out.1.2)
            have HU7 := Lib.hid (show Up w w7 from HU6.out.keep hk7 HNE.out.2)
            have HOW7 := Lib.hid (HOW6.out.held hk7 HPB.out)
            clear hs7 hk7
            go_wp2_with fail
            refine (HAY.out _ HS7.out).mono ?_
            rintro e w8 ⟨rfl, hu8⟩
            have HS8 := Lib.hid (HS7.out.up hu8)
            have HR8 := Lib.hid (HR7.out.up hu8)
            have HU8 := Lib.hid (HU7.out.trans hu8)
            have HOW8 := Lib.hid (HOW7.out.up hu8)
            clear hu8
            go_wp2_with fail
            refine (HDY.out _ HS8.out).mono ?_
            rintro e w9 ⟨rfl, hs9, hk9⟩
            have HS9 := Lib.hid hs9
            have HR9 := Lib.hid (HR8.out.held hk9 HNE.out.1.1 HNE.out.1.2)
            have HU9 := Lib.hid (show Up w w9 from HU8.out.keep hk9 HNE.out.2)
            have HOW9 := Lib.hid (HOW8.out.held hk9 HPB.out)
            have HC9 := Lib.hid HOW9.out.cellC
            have zb9 := (HOW9.out.at_ _ rfl).2
            simp only at zb9
            clear hs9 hk9 zbj
            go_wp2_with fail
            go_loopw [112] (fun i wr => ∃ j : Nat, j ≤ len ∧ i = .int .i64 (j : Int) ∧ Up w9 wr) (fun i _ => len - (intOf i).toNat)
            case atStart => exact ⟨0, by omega, rfl, Up.refl _⟩
            case round =>
              obtain ⟨j, hj, rfl, huj⟩ := hrel
              have HUJ9 := Lib.hid huj
              have zbj : b < wr.heap.size := by have := huj.size; omega
              by_cases hlt : j < len
              · obtain ⟨kx, hkx, hkl, hkat⟩ := HAT.out j hlt
                have hx0 := HC9.out wr huj j hlt
                have hbb := HBB.out j hlt
                rw [hkx] at hx0 hbb
                obtain ⟨d, hd⟩ : ∃ d, X.at_ (kx : Int) = d := ⟨_, rfl⟩
                rw [hd] at hkat hbb
                obtain ⟨dz, hdz⟩ : ∃ dz, Z.at_ (kx : Int) = dz := ⟨_, rfl⟩
                have HAZ := Lib.hid (fun W (h' : SAt W p g Z) => sat_op (kx : Int) h' HOZ.out hdz)
                rw [hdz] at hbb
                have hrw := HR9.out.up huj
                have y0 := (hrw.cells.2.2 kx d hkat).h0
                obtain ⟨cap4, q1, q2, k4⟩ := hrw.h4
                have zp := hrw.lt
                have zg := hrw.cells.2.1
                obtain ⟨ml, hml⟩ : ∃ ml, X.L.length = ml := ⟨_, rfl⟩
                rw [hml] at q1 k4 hkl hsm
                have hcp : (cap4 : Int) ≤ 9223372036854775807 := by simp [maxLen] at q2; omega
                have hjn : (j : Int) < (len : Int) := by omega
                have hkn : (kx : Int) < (ml : Int) := by omega
                obtain ⟨dch, da, dfa, dhi, dco, dse⟩ := d
                obtain ⟨zch, za, zfa, zhi, zco, zse⟩ := dz
                simp only at y0 hbb HAZ
                subst hbb
                have hzz : (zch != zch) = false := by simp
                have HSJ := Lib.hid (HS9.out.up huj)
                clear hkat hd hrw q2 huj hkx hml hdz
                go_wp2_with fail
                refine wp_region_mix (NS := []) [] rfl (by kernel_rfl) (by kernel_rfl) (by simp) (by simp) ?_
                repeat (first
                  | (refine mix_skip rfl rfl ?_; simp only [Act.put, List.setIfInBounds_toArray, List.set_cons_succ, List.set_cons_zero])
                  | (refine mix_q rfl rfl rfl (by kernel_rfl) rfl rfl rfl ?_
                     apply Exists.intro
                     refine ⟨fun Wm => ?_, ?_⟩
                     · simp only [fin]
                       skip
                       intro K hK
                       go_wp2_with ((go_at_call 27; (with_reducible refine (HAZ.out _ (HSJ.out.up (up_upOf _ _))).mono ?_); rintro e w' ⟨rfl, hux⟩))
                       refine hK _ _ ?_ ?_ ?_
                       · (repeat (first | with_reducible exact Up.refl _ | with_reducible refine Up.alloc ?_ _ | with_reducible refine Up.drew ?_ | with_reducible refine Up.drewN ?_ _ | with_reducible refine Up.setCell ?_ (by (try simp) <;> omega) _ | with_reducible assumption | with_reducible refine Up.trans ?_ (by assumption)))
                       · rfl
                       · exact tmps_at rfl
                     simp only [Act.put, List.setIfInBounds_toArray, List.set_cons_succ, List.set_cons_zero]))
                refine mix_nil ?_
                intro w10 hb_w10
                simp only [fin]
                have hu_w10 : Up wr w10 := by (repeat (first | with_reducible exact Up.refl _ | with_reducible refine Up.alloc ?_ _ | with_reducible refine Up.drew ?_ | with_reducible refine Up.drewN ?_ _ | with_reducible refine Up.setCell ?_ (by (try simp) <;> omega) _ | with_reducible assumption | with_reducible refine Up.trans ?_ (by assumption)))
                have hz_w10 := Up.size hb_w10
                try simp at hz_w10
                obtain ⟨bc_w10_0, bf_w10_0⟩ := hu_w10.at_ (q) (by omega)
                obtain ⟨bc_w10_1, bf_w10_1⟩ := hu_w10.at_ (h) (by omega)
                have zb_w10_0 : q < w10.heap.size := by omega
                have zb_w10_1 : h < w10.heap.size := by omega
                go_wp2_with fail
                go_roundw
                case rel => exact ⟨j + 1, by omega, by go_num, HUJ9.out.trans hu_w10⟩
                case measure => simp [intOf]; omega
              · obtain rfl : j = len := by omega
                clear huj
                go_wp2_with fail
                go_ret
                exact ⟨ret_bool (by simp), HU9.out.trans HUJ9.out⟩
        · have HI := Lib.hid (cins_shut (x := c) HS6.out HOK.out (by simpa using hop))
          clear hop
          go_wp2_with fail
          refine HI.out.mono ?_
          rintro e w7 ⟨rfl, hu7⟩
          have HU7 := Lib.hid (HU6.out.trans hu7)
          clear hu7
          go_wp2_with fail
          go_ret
          exact ⟨ret_bool (by simp), HU7.out⟩
end Go.Proofs.Ytjokcfenncogkaa
