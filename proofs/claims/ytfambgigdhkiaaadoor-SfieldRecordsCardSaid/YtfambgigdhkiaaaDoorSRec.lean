/-
  sfield's Record: what a record of acts is. Conditions: the acts are cut short, at most six; write's table lies as the row lists it.
-/
import Derived.Test.YtfambgigdhkiaaaDoorRRec
import Derived.Test.YtfambgigdhkiaaaDoorRActs
import Derived.Test.YtfambgigdhkiaaaDoorDoor21b
namespace Go.Proofs.YtfambgigdhkiaaaDoor
open Go.RowKit
set_option linter.unusedVariables false
set_option linter.unusedSimpArgs false

set_option maxRecDepth 100000 in
set_option maxHeartbeats 6400000 in
theorem srec_is {B c : Nat} {A : Option Addr} {ys : List EA} {w : World} (ht : TabW w) (h : FL 50 7 EA.cells EA.inn B w A c ys) (hs : ∀ y ∈ ys.map EA.a, SmallA y) (hl : ys.length ≤ 6) :
    Calls Tryd.prog 31 #[.slice A ys.length c] w (RecRet w (recOf (ys.map EA.a))) := by
  obtain ⟨i0, hi, hz0, hz1, hz2⟩ := info_parts info_u8
  have HT := Lib.hid ht
  clear ht
  have H := Lib.hid h
  have HSM := Lib.hid hs
  obtain ⟨N, hN⟩ : ∃ N, ys.length = N := ⟨_, rfl⟩
  obtain ⟨L, hL⟩ : ∃ L, ys.map EA.a = L := ⟨_, rfl⟩
  have HN := Lib.hid hN
  have HL := Lib.hid hL
  rw [hL] at HSM
  rw [hN] at hl ⊢
  rw [hL]
  have HLN : Hid (L.length = N) := Lib.hid (by rw [← hL, List.length_map, hN])
  clear h hs hN hL
  have hfb := fbs_len (l := L) HSM.out
  rw [HLN.out] at hfb
  have HFB := Lib.hid hfb
  clear hfb
  go_enter Tryd.func31, Tryd.ntmps31
  go_wp2_with fail
  go_loopw [4, 13] (fun v q wr => ∃ (j : Nat) (A1 : Option Addr) (c1 m1 : Nat), q = .int .i64 (j : Int) ∧ v = .slice A1 m1 c1 ∧ j ≤ N ∧ Up w wr ∧ wr.ownsRow w.heap.size 5 1 (.slice A1 m1 c1) m1 (bs (243 :: (L.take j).flatMap fbOf)) ∧ m1 ≤ c1 ∧ c1 ≤ maxLen ∧ m1 = 1 + ((L.take j).flatMap fbOf).length ∧ BL ((L.take j).flatMap fbOf) ∧ ∀ y ∈ L.take j, fOk y = true) (fun _ q _ => N - (intOf q).toNat)
  case atStart =>
    refine ⟨0, some ⟨w.heap.size, 0, none⟩, 1, 1, rfl, rfl, Nat.zero_le _, (Up.refl w).alloc _, ?_, by omega, by simp [maxLen], rfl, BL.nil, by simp⟩
    exact lit1 w 243 w.heap.size (Nat.le_refl _) w.heap.size rfl
  case round =>
    obtain ⟨j, A1, c1, m1, rfl, rfl, hj, hup, hown, hmc, hcm, hm1, hbl, hok⟩ := hrel
    have HUP := Lib.hid hup
    have HOWN := Lib.hid hown
    have HM1 := Lib.hid hm1
    have HBL := Lib.hid hbl
    have HOK := Lib.hid hok
    have htl : ((L.take j).flatMap fbOf).length ≤ 304 * 6 := by
      have h1 := fbs_len (l := L.take j) (fun y hy => HSM.out y (List.mem_of_mem_take hy))
      have h2 : (L.take j).length ≤ j := by rw [List.length_take]; omega
      omega
    have hm2 : m1 ≤ 1825 := by omega
    clear hup hown hm1 hbl hok htl
    by_cases hlt : j < N
    · obtain ⟨x, hx⟩ : ∃ x, ys[j]? = some x := ⟨ys[j]'(by rw [HN.out]; exact hlt), List.getElem?_eq_getElem (by rw [HN.out]; exact hlt)⟩
      have hxL : L[j]? = some x.a := by rw [← HL.out, List.getElem?_map, hx]; rfl
      obtain ⟨b, hA, hbw, hcl, hin⟩ := ea_at (H.out.up HUP.out) hx
      have hsm := HSM.out x.a (List.mem_of_getElem? hxL)
      have hq := hsm.req
      have hcd := hsm.codes
      have hrc := hsm.rec_
      subst hA
      have c0' : wr.cell? ⟨b, j * 7, none⟩ = some (.int .i64 x.a.kind) := hcl 0 _ rfl
      have c1' : wr.cell? ⟨b, j * 7 + 1, none⟩ = some (.int .i64 x.a.cmd) := hcl 1 _ rfl
      have c2' : wr.cell? ⟨b, j * 7 + 2, none⟩ = some (.int .i64 x.a.mode) := hcl 2 _ rfl
      have c3' : wr.cell? ⟨b, j * 7 + 3, none⟩ = some (.bool x.a.alt) := hcl 3 _ rfl
      have c4' : wr.cell? ⟨b, j * 7 + 4, none⟩ = some (.int .u8 x.a.req) := hcl 4 _ rfl
      have c5' : wr.cell? ⟨b, j * 7 + 5, none⟩ = some (.slice x.A1 x.a.codes.length x.c1) := hcl 5 _ rfl
      have c6' : wr.cell? ⟨b, j * 7 + 6, none⟩ = some (.slice x.A2 x.a.rec_.length x.c2) := hcl 6 _ rfl
      have S1 := Lib.hid (hin (x.A1, x.c1, x.a.codes) (by simp [EA.inn]))
      have S2 := Lib.hid (hin (x.A2, x.c2, x.a.rec_) (by simp [EA.inn]))
      simp only at S1 S2
      obtain ⟨hfl, hid0, hid1⟩ := field_len hsm
      have hfbo := fb_ok hsm
      have htk := take_snoc hxL
      have HMK := Lib.hid (fun (w' : World) (hu : Up wr w') => field_is (a := x.a) (HT.out.up (HUP.out.trans hu)) hq (S1.out.up hu) (S2.out.up hu) (by omega) (by omega))
      obtain ⟨i, dl, er, hf⟩ : ∃ i dl er, fieldOf x.a = (i, dl, er) := ⟨_, _, _, rfl⟩
      rw [hf] at HMK hfl hid0 hid1 hfbo
      simp only at hfl hid0 hid1 hfbo
      have HF := Lib.hid hf
      have HTK := Lib.hid htk
      have HXL := Lib.hid hxL
      have HSX := Lib.hid hsm
      obtain ⟨fb, hfbe⟩ : ∃ fb, fbOf x.a = fb := ⟨_, rfl⟩
      have hbe : bytesOf i dl = (fb, 0) := by
        have : fbOf x.a = (bytesOf i dl).1 := by unfold fbOf; rw [hf]
        exact Prod.ext (this.symm.trans hfbe) hfbo.1
      have HFE := Lib.hid hfbe
      have HBE := Lib.hid hbe
      have hfl4 : fb.length ≤ 304 := by rw [← hfbe]; exact hfbo.2
      clear hcl hin hx hxL hsm hf htk hfbe hbe hfbo
      go_wp2_with fail
      refine (HMK.out _ (by (repeat (first | with_reducible exact Up.refl _ | with_reducible refine Up.alloc ?_ _ | with_reducible refine Up.drew ?_ | with_reducible refine Up.drewN ?_ _ | with_reducible refine Up.setCell ?_ (by (try simp) <;> omega) _ | with_reducible assumption | with_reducible refine Up.trans ?_ (by assumption))))).mono ?_
      rintro e w3 ⟨F1, f1, rfl, s7, u3⟩
      have HS7 := Lib.hid s7
      have U3 : Hid (Up wr w3) := Lib.hid (by (repeat (first | with_reducible exact Up.refl _ | with_reducible refine Up.alloc ?_ _ | with_reducible refine Up.drew ?_ | with_reducible refine Up.drewN ?_ _ | with_reducible refine Up.setCell ?_ (by (try simp) <;> omega) _ | with_reducible assumption | with_reducible refine Up.trans ?_ (by assumption))))
      clear s7 u3
      rcases Bool.eq_false_or_eq_true (er != 0) with e0 | e0
      · have hne : fOk x.a = false := by
          unfold fOk
          rw [HF.out]
          simpa using e0
        have hrec := rec_fail HXL.out hne HOK.out
        rw [HF.out] at hrec
        have HREC := Lib.hid hrec
        clear hne hrec
        go_wp2_with fail
        go_ret2
        rw [HREC.out]
        exact ⟨none, 0, rfl, Sl.none_, (HUP.out.trans U3.out).trans (by (repeat (first | with_reducible exact Up.refl _ | with_reducible refine Up.alloc ?_ _ | with_reducible refine Up.drew ?_ | with_reducible refine Up.drewN ?_ _ | with_reducible refine Up.setCell ?_ (by (try simp) <;> omega) _ | with_reducible assumption | with_reducible refine Up.trans ?_ (by assumption))))⟩
      · have hok1 : fOk x.a = true := by
          unfold fOk
          rw [HF.out]
          simpa using e0
        have HOK1 := Lib.hid hok1
        clear hok1
        go_wp2_with fail
        have hbt := fbytes_is (id := i) ⟨hid0, hid1⟩ (HS7.out.up ((Up.refl w3).alloc (.cells #[.int .u8 i, .slice F1 dl.length f1] 40)))
        rw [HBE.out] at hbt
        refine hbt.mono ?_
        clear hbt
        rintro e w4 ⟨G1, g1, rfl, s8, -, u4⟩
        have HS8 := Lib.hid s8
        have U4 : Hid (Up wr w4) := Lib.hid (U3.out.trans (by (repeat (first | with_reducible exact Up.refl _ | with_reducible refine Up.alloc ?_ _ | with_reducible refine Up.drew ?_ | with_reducible refine Up.drewN ?_ _ | with_reducible refine Up.setCell ?_ (by (try simp) <;> omega) _ | with_reducible assumption | with_reducible refine Up.trans ?_ (by assumption)))))
        have hown4 := Lib.hid (own_up HOWN.out U4.out)
        have hz4 := (HUP.out.trans U4.out).size
        have hmx : m1 + fb.length ≤ maxLen := by simp [maxLen]; omega
        clear s8 u4
        go_wp2_with (at_builtin; refine wpList_app _ rfl (.tmp 33) (.tmp 34) 23 rfl w.heap.size 5 i0 _ 1 1 Tryd.underlying23 hi hz0 hz1 hz2 rfl (by decide) A1 m1 c1 (bs (243 :: (L.take j).flatMap fbOf)) rfl hown4.out _ G1 fb.length g1 (bs fb) rfl HS8.out.rd (one_u8 fb) hmx (by omega) hz4 ?_; intro A3 c3 w5 hown1 hg1 hle1 hmx1 hbl1; have HO := Lib.hid hown1; have HB5 := Lib.hid hbl1; clear hown1 hg1 hbl1)
        go_roundw
        case rel =>
          have ho := HO.out
          rw [← bs_app] at ho
          have e5 : (L.take (j + 1)).flatMap fbOf = (L.take j).flatMap fbOf ++ fb := by rw [HTK.out, List.flatMap_append]; simp [HFE.out]
          refine ⟨j + 1, A3, c3, m1 + fb.length, by go_num, rfl, by omega, Up.past (HUP.out.trans U4.out) HB5.out, ?_, hle1, hmx1, ?_, ?_, ?_⟩
          · rw [e5, ← List.cons_append]; exact ho
          · rw [e5, List.length_append, HM1.out]; omega
          · rw [e5]; exact BL.app HBL.out HS8.out.bytes
          · intro y hy
            rw [HTK.out] at hy
            rcases List.mem_append.1 hy with hy | hy
            · exact HOK.out y hy
            · rw [List.mem_singleton.1 hy]; exact HOK1.out
        case measure => simp [intOf]; omega
    · have hjn : L.take j = L := List.take_of_length_le (by rw [HLN.out]; omega)
      have hro := rec_ok (l := L) (by rw [← hjn]; exact HOK.out)
      have HRO := Lib.hid hro
      have HJN := Lib.hid hjn
      clear hjn hro
      go_wp2_with fail
      go_ret2
      rw [HRO.out]
      have ho := HOWN.out
      have hm := HM1.out
      have hb := HBL.out
      rw [HJN.out] at ho hm hb
      have hlen : (243 :: L.flatMap fbOf).length = m1 := by rw [List.length_cons, hm]; omega
      refine ⟨A1, c1, by rw [hlen]; rfl, ?_, HUP.out⟩
      rw [hlen]
      exact Sl.of_own ho hmc hcm (by omega) (BL.cons (by omega) hb)
end Go.Proofs.YtfambgigdhkiaaaDoor
