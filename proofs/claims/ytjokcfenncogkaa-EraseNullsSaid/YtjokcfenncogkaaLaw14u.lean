/-
  EraseNulls. No condition.
-/
import Derived.Test.YtjokcfenncogkaaNulP
namespace Go.Proofs.Ytjokcfenncogkaa
open Go.RowKit Go.Shelf
set_option linter.unusedVariables false
set_option linter.unusedSimpArgs false
attribute [local go_sem] Oper.semAt_some

theorem modified_lenU {X : Spc} (ok : X.Ok) : X.modified.length ≤ 65536 := by
  have h1 := ok.small
  have h2 := those_len (isAt X.L) X.L.length
  have h3 := List.length_filter_le (fun a : Int => fM (X.at_ a).fa) X.attrs
  unfold Spc.modified
  unfold Spc.attrs at *
  omega
theorem nul_text {X : Spc} (ok : X.Ok) {a : Int} (a0 : 0 ≤ a) (a1 : a < X.r * X.c) (h : X.isA a = true) (hp : 0 < (X.places a).length) : nulC ((X.endA (a + 1)).text a) = (X.places a).length := by
  rw [nulC_all (end_text ok a0 a1 h hp)]
  unfold Spc.text
  rw [List.length_map, (end_alk ok (a + 1)).places]
set_option maxRecDepth 100000 in
set_option maxHeartbeats 12800000 in
theorem law_nulls (m : Int) (A : Option Addr) (n cap : Nat) (l : List ActR) (nn : Int) (w : World) (m0 : 0 ≤ m) (m1 : m ≤ 255) (hl : l.length = n) (hn : n ≤ cap) (hc : cap ≤ maxLen) (hok : ∀ x ∈ l, x.Ok w w.heap.size) (hr : Reads w w.heap.size 11 A n (l.flatMap ActR.enc))
    (n0 : -9223372036854775808 ≤ nn) (n1 : nn ≤ 9223372036854775807) :
    Calls Try.prog 16 #[.int .u8 m, .slice A n cap, .int .i64 nn] w fun e w' => e = .returned (.bool true) ∧ Up w w' := by
  have fR := fldR0
  have HWF := Lib.hid (show ∀ a ∈ plains l, a.Wf from fun a ha => by simp only [plains, List.mem_map] at ha; obtain ⟨x, hx, rfl⟩ := ha; exact (hok x hx).wf)
  have HOK := Lib.hid (layS_ok m0 HWF.out)
  have HLY := Lib.hid (fun W (hu : Up w W) => lay14_is (B := w.heap.size) (w := W) m0 m1 hu.size (hr.below hu) hl hn hc (fun x hx => (hok x hx).keep hu))
  clear hok hr hl HWF
  go_enter Try.func16, Try.ntmps16
  go_wp2_with fail
  refine (awake14 _).mono ?_
  rintro e w0 ⟨rfl, hu0⟩
  have HU0 := Lib.hid hu0
  have z0 := hu0.size
  clear hu0
  go_wp2_with fail
  refine (HLY.out _ HU0.out).mono ?_
  rintro e w1 ⟨p, g, q, h, rfl, hs, hr, ⟨e1, e2, e3, e4, e5, e6, e7, e8⟩, hu1⟩
  obtain ⟨X, hX⟩ : ∃ X, layS m (plains l) = X := ⟨_, rfl⟩
  rw [hX] at hs hr HOK
  have HU1 := Lib.hid (HU0.out.trans hu1)
  have HS1 := Lib.hid hs
  have HR1 := Lib.hid hr
  have HNE := Lib.hid (show (¬ two p g q ∧ ¬ two p g h) ∧ ∀ k, two p g k → w.heap.size ≤ k from
    ⟨⟨fun e => by rcases e with e | e <;> omega, fun e => by rcases e with e | e <;> omega⟩, fun k hk => by rcases hk with e | e <;> omega⟩)
  clear hs hr hu1 hX HLY e1 e2 e3 e4 e5 e6 e7 e8
  have hl := those_len (isAt X.L) X.L.length
  have hsm := HOK.out.small
  have hla : X.attrs.length ≤ X.L.length := hl
  have HLN := Lib.hid HOK.out.len
  have HT := Lib.hid (fun W (h' : RAt W q h X) (a : Int) => rtext_is a h' HOK.out)
  have HTL := Lib.hid (fun a => text_len HOK.out a)
  have HCN := Lib.hid (fun W (h' : SAt W p g X) (a : Int) => cnulls_is a h' HOK.out)
  go_wp2_with fail
  refine (rattrs_is HR1.out HOK.out).mono ?_
  rintro e w2 ⟨A0, c0, rfl, hown0, hu2⟩
  have HU2 := Lib.hid (HU1.out.trans hu2)
  have HS2 := Lib.hid (HS1.out.up hu2)
  have HR2 := Lib.hid (HR1.out.up hu2)
  have HRD := Lib.hid hown0.reads
  have hc0 : (c0 : Int) ≤ 9223372036854775807 := by have := hown0.mx; simp [maxLen] at this; omega
  have hle0 := hown0.le
  obtain ⟨La, hLa⟩ : ∃ La, X.attrs = La := ⟨_, rfl⟩
  rw [hLa] at HRD hle0 hla ⊢
  obtain ⟨nl, hnl⟩ : ∃ nl, La.length = nl := ⟨_, rfl⟩
  have HNL := Lib.hid hnl
  rw [hnl] at HRD hle0 hla ⊢
  clear hown0 hu2 hl hLa hnl
  go_wp2_with fail
  go_loopw [26] (fun i wr => ∃ j : Nat, j ≤ nl ∧ i = .int .i64 (j : Int) ∧ Up w2 wr) (fun i _ => nl - (intOf i).toNat)
  case atStart => exact ⟨0, by omega, rfl, Up.refl _⟩
  case round =>
    obtain ⟨j, hj, rfl, huj⟩ := hrel
    have HUJ := Lib.hid huj
    by_cases hlt : j < nl
    · obtain ⟨a, ha⟩ : ∃ a, La[j]? = some a := ⟨_, List.getElem?_eq_getElem (by have := HNL.out; omega)⟩
      have hrd := HRD.out.below huj
      obtain ⟨b, off, rfl, hb⟩ := hrd.form (by omega)
      obtain ⟨hbl, u, hu, hcl⟩ := hrd.at_ (j := j) (by omega)
      have hux : u = .int .i64 a := by
        unfold ns at hu
        rw [List.getElem?_map, ha] at hu
        injection hu with hu
        exact hu.symm
      subst hux
      have hjn : (j : Int) < (nl : Int) := by omega
      have HTA := Lib.hid (HT.out wr (HR2.out.up huj) a)
      have HTLA := HTL.out a
      have HCA := Lib.hid (fun W (hu : Up w2 W) => HCN.out W (HS2.out.up hu) a)
      obtain ⟨T, hT⟩ : ∃ T, X.text a = T := ⟨_, rfl⟩
      rw [hT] at HTA HTLA HCA
      obtain ⟨len, hlen⟩ : ∃ len, T.length = len := ⟨_, rfl⟩
      have HTN := Lib.hid hlen
      rw [hlen] at HTA HTLA
      have HNS := Lib.hid (fun (k : Nat) (x : Int) (h : T[k]? = some x) => show nulC (T.take (k + 1)) = nulC (T.take k) + (if x = 0 then 1 else 0) by rw [take_snoc14 h, nulC_snoc])
      have HNLE := Lib.hid (fun k (hk : k ≤ len) => show nulC (T.take k) ≤ k from Nat.le_trans (nulC_le _) (by rw [List.length_take]; omega))
      have HNA := Lib.hid (show nulC (T.take len) = nulC T by rw [List.take_of_length_le (by omega)])
      clear hrd hu ha huj hT hlen
      go_wp2_with fail
      refine HTA.out.mono ?_
      rintro e w3 ⟨A3, c3, rfl, hown3, hu3⟩
      have HRT := Lib.hid hown3.reads
      have HU3 := Lib.hid (HUJ.out.trans hu3)
      have hle3 := hown3.le
      have hc3 : (c3 : Int) ≤ 9223372036854775807 := by have := hown3.mx; simp [maxLen] at this; omega
      clear hown3 hu3
      go_wp2_with fail
      go_loopw [11, 34] (fun v i wx => ∃ k : Nat, k ≤ len ∧ v = .int .i64 (nulC (T.take k) : Int) ∧ i = .int .i64 (k : Int) ∧ Up w3 wx) (fun _ i _ => len - (intOf i).toNat)
      case atStart => exact ⟨0, by omega, by simp [nulC], rfl, Up.refl _⟩
      case round =>
        obtain ⟨k, hk, rfl, rfl, huk⟩ := hrel
        have HUK := Lib.hid huk
        have hnl := HNLE.out k hk
        by_cases hkt : k < len
        · obtain ⟨x, hx⟩ : ∃ x, T[k]? = some x := ⟨_, List.getElem?_eq_getElem (by rw [HTN.out]; omega)⟩
          have hrd := HRT.out.up huk
          obtain ⟨b3, off3, rfl, hb3⟩ := hrd.form (by omega)
          have hx0 : wr.cell? ⟨b3, off3 + k, none⟩ = some (.int .u8 x) := by
            obtain ⟨_, u, hu, hcu⟩ := hrd.at_ (j := k) (by omega)
            unfold bs at hu
            rw [List.getElem?_map, hx] at hu
            rw [hcu]; exact hu.symm
          have hkn : (k : Int) < (len : Int) := by omega
          have HSJ := Lib.hid (HNS.out k x hx)
          generalize nulC (T.take k) = S at *
          clear hrd hx huk
          by_cases hz : x = 0
          · have HSK := Lib.hid (show nulC (T.take (k + 1)) = S + 1 by rw [HSJ.out, if_pos hz])
            subst hz
            go_wp2_with fail
            go_roundw
            case rel => exact ⟨k + 1, by omega, by rw [HSK.out]; go_num, by go_num, HUK.out⟩
            case measure => simp [intOf]; omega
          · have HSK := Lib.hid (show nulC (T.take (k + 1)) = S by rw [HSJ.out, if_neg hz]; rfl)
            have e1 : (x == 0) = false := by simp [hz]
            clear hz
            go_wp2_with fail
            go_roundw
            case rel => exact ⟨k + 1, by omega, by rw [HSK.out], by go_num, HUK.out⟩
            case measure => simp [intOf]; omega
        · obtain rfl : k = len := by omega
          have hna := HNA.out
          rw [hna] at hnl ⊢
          have HC2 := Lib.hid (HCA.out wr (HU3.out.trans HUK.out))
          generalize nulC T = S at *
          clear hna huk
          go_wp2_with fail
          refine HC2.out.mono ?_
          rintro e w4 ⟨rfl, hu4⟩
          have HU4 := Lib.hid (HU3.out.trans (HUK.out.trans hu4))
          clear hu4
          go_wp2_with fail
          go_roundw
          case rel => exact ⟨j + 1, by omega, by go_num, HU4.out⟩
          case measure => simp [intOf]; omega
    · obtain rfl : j = nl := by omega
      have HS3 := Lib.hid (HS2.out.up huj)
      have HR3 := Lib.hid (HR2.out.up huj)
      have HW3 := Lib.hid (HU2.out.trans huj)
      have HST := Lib.hid (rstart_is nn HR3.out HOK.out)
      have HSR := Lib.hid (start_range HOK.out nn)
      have HSA := Lib.hid (fun h' => start_attr HOK.out (n := nn) h')
      have HCZ := Lib.hid (fun W (h' : SAt W p g X) => HCN.out W h' nn)
      obtain ⟨a, ha⟩ : ∃ a, X.start nn = a := ⟨_, rfl⟩
      rw [ha] at HST HSR HSA
      obtain ⟨S0, hS0⟩ : ∃ S0, nulC (X.text nn) = S0 := ⟨_, rfl⟩
      rw [hS0] at HCZ
      have hS : (0 : Int) ≤ (S0 : Int) := by omega
      clear ha hS0 huj
      go_wp2_with fail
      refine HST.out.mono ?_
      rintro e w4 ⟨rfl, hu4⟩
      have HS4 := Lib.hid (HS3.out.up hu4)
      have HR4 := Lib.hid (HR3.out.up hu4)
      have HW4 := Lib.hid (HW3.out.trans hu4)
      clear hu4
      rcases HSR.out with rfl | ⟨ha0, ha1⟩
      · go_wp2_with fail
        refine (HCZ.out _ HS4.out).mono ?_
        rintro e w5 ⟨rfl, hu5⟩
        have HW5 := Lib.hid (HW4.out.trans hu5)
        clear hu5
        go_wp2_with fail
        go_ret
        exact ⟨ret_bool (by simp), HW5.out⟩
      · obtain ⟨ka, rfl⟩ : ∃ ka : Nat, a = (ka : Int) := ⟨a.toNat, by omega⟩
        have HB1 := Lib.hid ha1
        have hkm : ka < X.L.length := by have := HLN.out; omega
        have hkb : (ka : Int) < 3564 := by omega
        have hna : ¬ (ka : Int) < 0 := by omega
        obtain ⟨f, hf⟩ : ∃ f, (X.at_ (ka : Int)).fa = f := ⟨_, rfl⟩
        have HF := Lib.hid hf
        have HRF := Lib.hid (rfield_is HR4.out HOK.out hkm hf)
        have HOE := Lib.hid (fun (hp : 0 < (X.places (ka : Int)).length) (hf0 : fP f = false) => end_open HOK.out ha0 ha1 (HSA.out ha0) hp (by rw [HF.out]; exact hf0))
        generalize fP f = b0 at *
        clear hf ha1
        go_wp2_with fail
        refine HRF.out.mono ?_
        rintro e w5 ⟨rfl, hu5⟩
        have HS5 := Lib.hid (HS4.out.up hu5)
        have HR5 := Lib.hid (HR4.out.up hu5)
        have HW5 := Lib.hid (HW4.out.trans hu5)
        clear hu5
        cases b0
        · have HPL := Lib.hid (rplaces_is (ka : Int) HR5.out HOK.out)
          have HPN := Lib.hid (places_len13 HOK.out (ka : Int))
          have HP2 := Lib.hid (fun W (h' : RAt W q h X) => rplaces_is (ka : Int) h' HOK.out)
          have HNT := Lib.hid (fun hp => nul_text HOK.out ha0 HB1.out (HSA.out ha0) hp)
          have HEM := Lib.hid (fun hp => end_modified HOK.out ha0 HB1.out (HSA.out ha0) hp)
          have hpn := HPN.out
          generalize X.places (ka : Int) = P at *
          generalize P.length = np at *
          go_wp2_with fail
          refine HPL.out.mono ?_
          rintro e w6 ⟨A6, c6, rfl, -, hu6⟩
          have HS6 := Lib.hid (HS5.out.up hu6)
          have HR6 := Lib.hid (HR5.out.up hu6)
          have HW6 := Lib.hid (HW5.out.trans hu6)
          clear hu6
          by_cases hz : np = 0
          · subst hz
            go_wp2_with fail
            refine (HCZ.out _ HS6.out).mono ?_
            rintro e w7 ⟨rfl, hu7⟩
            have HW7 := Lib.hid (HW6.out.trans hu7)
            clear hu7
            go_wp2_with fail
            go_ret
            exact ⟨ret_bool (by simp), HW7.out⟩
          · have hz' : ((np : Int) == 0) = false := by simpa using hz
            have hzp : 0 < np := by omega
            have HEN := Lib.hid (cend_yes HS6.out HOK.out (HOE.out (by omega) (by first | rfl | trivial)))
            have HNT2 := HNT.out (by omega)
            have HEM2 := Lib.hid (HEM.out (by omega))
            have HOY := Lib.hid (end_ok HOK.out ((ka : Int) + 1))
            have HCY := Lib.hid (fun W (h' : SAt W p g (X.endA ((ka : Int) + 1))) => cnulls_is (ka : Int) h' HOY.out)
            rw [HNT2] at HCY
            have HML := Lib.hid (modified_lenU HOY.out)
            generalize X.endA ((ka : Int) + 1) = Y at *
            clear HNT2
            go_wp2_with fail
            refine HEN.out.mono ?_
            rintro e w7 ⟨rfl, hs7, hk7⟩
            have HS7 := Lib.hid hs7
            have HR7 := Lib.hid (HR6.out.held hk7 HNE.out.1.1 HNE.out.1.2)
            have HW7 := Lib.hid (show Up w w7 from HW6.out.keep hk7 HNE.out.2)
            clear hs7 hk7
            go_wp2_with fail
            refine (HCY.out _ HS7.out).mono ?_
            rintro e w8 ⟨rfl, hu8⟩
            have HS8 := Lib.hid (HS7.out.up hu8)
            have HR8 := Lib.hid (HR7.out.up hu8)
            have HW8 := Lib.hid (HW7.out.trans hu8)
            clear hu8
            go_wp2_with fail
            refine (HP2.out _ HR8.out).mono ?_
            rintro e w9 ⟨A9, c9, rfl, -, hu9⟩
            have HS9 := Lib.hid (HS8.out.up hu9)
            have HW9 := Lib.hid (HW8.out.trans hu9)
            clear hu9
            go_wp2_with fail
            refine (modified_val13 _ _).mono ?_
            rintro e w10 ⟨bm, rfl, -, -, hb3, -, hu10⟩
            have HS10 := Lib.hid (HS9.out.up hu10)
            have HW10 := Lib.hid (HW9.out.trans hu10)
            clear hu10
            go_wp2_with fail
            refine (collect_modified HS10.out HOY.out hb3).mono ?_
            rintro e w11 ⟨A11, c11, rfl, ho11, hu11⟩
            have HW11 := Lib.hid (HW10.out.trans hu11)
            have HCO := Lib.hid (contains_is ho11 HML.out HEM2.out)
            clear hu11 ho11 hb3
            go_wp2_with fail
            refine HCO.out.mono ?_
            rintro e w12 ⟨rfl, hu12⟩
            have HW12 := Lib.hid (HW11.out.trans hu12)
            clear hu12
            go_wp2_with fail
            go_ret
            exact ⟨ret_bool (by simp), HW12.out⟩
        · go_wp2_with fail
          refine (HCZ.out _ HS5.out).mono ?_
          rintro e w6 ⟨rfl, hu6⟩
          have HW6 := Lib.hid (HW5.out.trans hu6)
          clear hu6
          go_wp2_with fail
          go_ret
          exact ⟨ret_bool (by simp), HW6.out⟩
end Go.Proofs.Ytjokcfenncogkaa
