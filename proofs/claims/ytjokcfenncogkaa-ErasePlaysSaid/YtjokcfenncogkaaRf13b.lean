/-
  The document's Start, Field, Places. No condition.
-/
import Derived.Test.YtjokcfenncogkaaRf13a
namespace Go.Proofs.Ytjokcfenncogkaa
open Go.RowKit
set_option linter.unusedVariables false
set_option linter.unusedSimpArgs false

theorem rwrap_at {q h : Nat} {X : Spc} {w : World} (n : Int) (hr : RAt w q h X) (ok : X.Ok) {k : Nat} (hk : X.wrap n = k) :
    Calls Try.prog 34 #[.pointer (some ⟨q, 0, none⟩), .int .i64 n] w fun e w' => e = .returned (.int .i64 (k : Int)) ∧ Up w w' := by
  have := rwrap_is n hr ok
  rw [hk] at this
  exact this
set_option maxHeartbeats 1600000 in
theorem rstart_is {q h : Nat} {X : Spc} {w : World} (n : Int) (hr : RAt w q h X) (ok : X.Ok) :
    Calls Try.prog 54 #[.pointer (some ⟨q, 0, none⟩), .int .i64 n] w fun e w' => e = .returned (.int .i64 (X.start n)) ∧ Up w w' := by
  have HR := Lib.hid hr
  have HS := Lib.hid (rstarts_is hr ok)
  obtain ⟨k, hk⟩ : ∃ k, X.wrap n = k := ⟨_, rfl⟩
  have hw := ok.wrap n
  rw [hk] at hw
  have HW := Lib.hid (fun W (h' : RAt W q h X) => rwrap_at n h' ok hk)
  have hst : X.start n = X.start (k : Int) := by rw [← hw.1, start_emod]
  have hsa := starts_at hw.2
  have hsm := ok.small
  rw [hst]
  have hkm := hw.2
  have HSA := Lib.hid hsa
  generalize X.start (k : Int) = res at *
  generalize X.L.length = m at *
  clear hw hsa hk hst hr ok
  have hkm' : (k : Int) < (m : Int) := by omega
  go_enter Try.func54, Try.ntmps54
  go_wp2_with fail
  refine HS.out.mono ?_
  rintro e w1 ⟨g, rfl, hg, hi, hu1⟩
  have HI := Lib.hid hi
  have HU := Lib.hid hu1
  have zg := hi.2.1
  clear hi hu1
  go_wp2_with fail
  refine (HW.out _ (HR.out.up HU.out)).mono ?_
  rintro e w2 ⟨rfl, hu2⟩
  have c1 := (HI.out.up hu2).2.2 k _ HSA.out
  have HU2 := Lib.hid (HU.out.trans hu2)
  clear hu2
  go_wp2_with fail
  go_ret
  exact ⟨rfl, HU2.out⟩
set_option maxHeartbeats 1600000 in
theorem rfield_is {q h k : Nat} {X : Spc} {w : World} (hr : RAt w q h X) (ok : X.Ok) (hk : k < X.L.length) {f : Int} (hf : (X.at_ (k : Int)).fa = f) :
    Calls Try.prog 51 #[.pointer (some ⟨q, 0, none⟩), .int .i64 (k : Int)] w fun e w' => e = .returned (.agg #[.bool (fP f), .bool (fN f), .int .i64 (fD f), .bool (fM f)]) ∧ Up w w' := by
  have hat := Spc.at_nat ok hk
  have hfa := Spc.fa_at ok (k : Int)
  obtain ⟨d, hd⟩ : ∃ d, X.at_ (k : Int) = d := ⟨_, rfl⟩
  rw [hd] at hat hfa hf
  subst hf
  have x2 := (hr.cells.2.2 k d hat).h2
  obtain ⟨cap, q1, q2, k4⟩ := hr.h4
  have zp := hr.lt
  have zg := hr.cells.2.1
  have hsm := ok.small
  have hcp : (cap : Int) ≤ 9223372036854775807 := by simp [maxLen] at q2; omega
  have HO := Lib.hid (fun W => ref_of_any d.fa W hfa.1 hfa.2)
  generalize d.fa = fa at *
  generalize X.L.length = m at *
  clear hat hfa hd hr ok
  have hkm' : (k : Int) < (m : Int) := by omega
  go_enter Try.func51, Try.ntmps51
  go_wp2_with fail
  refine (HO.out _).mono ?_
  rintro e w1 ⟨rfl, hu1⟩
  have hb := hu1.at_ w.heap.size (by simp)
  have k0 := (hb.1 0).trans (by simp [go_sem] : _ = some (.bool false))
  have k1 := (hb.1 1).trans (by simp [go_sem] : _ = some (.bool false))
  have k2 := (hb.1 2).trans (by simp [go_sem] : _ = some (.int .i64 0))
  have k3 := (hb.1 3).trans (by simp [go_sem] : _ = some (.bool false))
  have f0 := (hb.2 0).trans (by simp [go_sem] : _ = false)
  have f1 := (hb.2 1).trans (by simp [go_sem] : _ = false)
  have f2 := (hb.2 2).trans (by simp [go_sem] : _ = false)
  have f3 := (hb.2 3).trans (by simp [go_sem] : _ = false)
  have zk : w.heap.size < w1.heap.size := by have := hu1.size; simp at this; omega
  go_wp2_with fail
  exact bodyPost_ret (v := .agg #[.bool (fP fa), .bool (fN fa), .int .i64 (fD fa), .bool (fM fa)]) (by simp [results, Try.results51, go_sem, k0, k1, k2, k3]) rfl ⟨rfl, by (repeat (first | with_reducible exact Up.refl _ | with_reducible refine Up.alloc ?_ _ | with_reducible refine Up.drew ?_ | with_reducible refine Up.drewN ?_ _ | with_reducible refine Up.setCell ?_ (by (try simp) <;> omega) _ | with_reducible assumption | with_reducible refine Up.trans ?_ (by assumption)))⟩
set_option maxRecDepth 100000 in
set_option maxHeartbeats 3200000 in
theorem rplaces_is {q h : Nat} {X : Spc} {w : World} (a : Int) (hr : RAt w q h X) (ok : X.Ok) :
    Calls Try.prog 75 #[.pointer (some ⟨q, 0, none⟩), .int .i64 a] w fun e w' => ∃ A c, e = .returned (.slice A (X.places a).length c) ∧ OwnI w.heap.size w' A (X.places a).length c (X.places a) ∧ Up w w' := by
  obtain ⟨i0, hi, hz0, hz1, hz2⟩ := info_parts info_i64
  have HR := Lib.hid hr
  obtain ⟨k, hk⟩ : ∃ k, X.wrap a = k := ⟨_, rfl⟩
  have hw := ok.wrap a
  rw [hk] at hw
  have HW := Lib.hid (rwrap_at a hr ok hk)
  have hpl : X.places a = X.places (k : Int) := by rw [← hw.1, places_emod]
  rw [hpl]
  have hat := Spc.at_nat ok hw.2
  have HS := Lib.hid (fun W (h' : RAt W q h X) => rstarts_is h' ok)
  have HSA := Lib.hid (fun j (hj : j < X.L.length) => starts_at (X := X) hj)
  have HSTEP := Lib.hid (fun (hA : X.isA (k : Int) = true) j (hj : j < X.cnt (k : Int)) => start_step ok hA hj)
  have HEND := Lib.hid (fun (hA : X.isA (k : Int) = true) (hc : X.cnt (k : Int) + 1 < X.L.length) => start_end ok hA hc)
  have HCN := Lib.hid (fun (hA : X.isA (k : Int) = true) => (cnt_is ok hA).1)
  have HWR := Lib.hid (fun n => ok.wrap n)
  have HEM := Lib.hid (show (k : Int) % (X.r * X.c) = k from by have := ok.len; have := hw.2; exact Int.emod_eq_of_lt (by omega) (by omega))
  have HSE := Lib.hid (fun n : Int => start_emod (X := X) n)
  have HSS := Lib.hid (fun n => stepsL_succ X (k : Int) n)
  have HSN := Lib.hid (fun n => stepsL_len X (k : Int) n)
  have hln := ok.len
  obtain ⟨d, hd⟩ : ∃ d, X.at_ (k : Int) = d := ⟨_, rfl⟩
  have hAd : X.isA (k : Int) = d.at_ := by unfold Spc.isA; rw [hd]
  have HAD := Lib.hid hAd
  have HPT := Lib.hid (fun (hA : X.isA (k : Int) = true) => show X.places (k : Int) = stepsL X (k : Int) (X.cnt (k : Int)) by unfold Spc.places; rw [if_pos hA])
  have HPF := Lib.hid (fun (hA : X.isA (k : Int) = false) => show X.places (k : Int) = [] by unfold Spc.places; rw [hA]; rfl)
  rw [hd] at hat
  have x1 := (hr.cells.2.2 k d hat).h1
  have hkm := hw.2
  obtain ⟨cap, q1, q2, k4⟩ := hr.h4
  have zp := hr.lt
  have zg := hr.cells.2.1
  have hsm := ok.small
  have hbg := ok.big
  have hcp : (cap : Int) ≤ 9223372036854775807 := by simp [maxLen] at q2; omega
  obtain ⟨m, hm⟩ : ∃ m, X.L.length = m := ⟨_, rfl⟩
  rw [hm] at q1 k4 hsm hbg hkm hln HSA HEND HCN HWR HS
  rw [← hln] at HSTEP HEND HWR HEM HSE HSS
  obtain ⟨cn, hcn⟩ : ∃ cn, X.cnt (k : Int) = cn := ⟨_, rfl⟩
  rw [hcn] at HSTEP HEND HCN HPT
  clear hm hr ok q2 hk hw hpl hat hd hAd hcn hln
  have hkm' : (k : Int) < (m : Int) := by omega
  go_enter Try.func75, Try.ntmps75
  go_wp2_with fail
  refine HW.out.mono ?_
  rintro e w1 ⟨rfl, hu1⟩
  have k4' := ((hu1.at_ q zp).1 4).trans k4
  have x1' := ((hu1.at_ h zg).1 _).trans x1
  have z1 := hu1.size
  have zp1 : q < w1.heap.size := by omega
  have HU1 := Lib.hid hu1
  clear hu1 k4 x1
  obtain ⟨dch, da, dfa, dhi, dco, dse⟩ := d
  simp only at x1' HAD
  cases da
  · have HPL := Lib.hid (HPF.out HAD.out)
    go_wp2_with fail
    go_ret
    exact ⟨none, 0, by rw [HPL.out]; rfl, by rw [HPL.out]; exact OwnI.nil _ _, HU1.out⟩
  · have hcn := HCN.out HAD.out
    have HPL := Lib.hid (HPT.out HAD.out)
    have HST := Lib.hid (fun j hj => (HSTEP.out HAD.out j hj).trans HEM.out)
    have HEN := Lib.hid (fun hc => HEND.out HAD.out hc)
    rw [HEM.out] at HEN
    clear HSTEP HEND HCN HPT HPF HAD
    go_wp2_with fail
    refine (HS.out _ (HR.out.up HU1.out)).mono ?_
    rintro e w2 ⟨g, rfl, hg, hints, hu2⟩
    have k5 := ((hu2.at_ q zp1).1 4).trans k4'
    have z2 := hu2.size
    have zp2 : q < w2.heap.size := by omega
    have zg2 := hints.2.1
    have HI := Lib.hid hints
    have HU2 := Lib.hid (HU1.out.trans hu2)
    clear hu2 hints k4' x1'
    go_wp2_with fail
    go_loopw [6, 7] (fun v i wr => ∃ (j : Nat) (A : Option Addr) (c : Nat), j ≤ cn ∧ v = .slice A j c ∧ i = .int .i64 ((j : Int) + 1) ∧ OwnI w2.heap.size wr A j c (stepsL X (k : Int) j) ∧ Up w2 wr) (fun _ i _ => m - (intOf i).toNat)
    case atStart => exact ⟨0, none, 0, by omega, rfl, rfl, by simpa [stepsL] using OwnI.nil _ _, Up.refl _⟩
    case round =>
      obtain ⟨j, A, c, hj, rfl, rfl, hown, huj⟩ := hrel
      have HUJ := Lib.hid huj
      have HOW := Lib.hid hown
      have k6 := ((huj.at_ q zp2).1 4).trans k5
      have zj := huj.size
      have zpj : q < wr.heap.size := by omega
      have hwr := HWR.out ((k : Int) + 1 + (j : Int))
      obtain ⟨kk, hkk⟩ : ∃ kk, X.wrap ((k : Int) + 1 + (j : Int)) = kk := ⟨_, rfl⟩
      rw [hkk] at hwr
      have HK := Lib.hid (show ((k : Int) + ((j : Int) + 1)) % (m : Int) = (kk : Int) by rw [← hwr.1]; congr 1; omega)
      have gk := (HI.out.up huj).2.2 kk _ (HSA.out kk hwr.2)
      have hkv : X.start (kk : Int) = X.start ((k : Int) + 1 + j) := by rw [← hwr.1, HSE.out]
      rw [hkv] at gk
      have zgj : g < wr.heap.size := (HI.out.up huj).2.1
      have hkm2 : (kk : Int) < (m : Int) := by have := hwr.2; omega
      clear huj hown hkk hkv
      by_cases hlt : j + 1 < m
      · have hjm : (j : Int) + 1 < (m : Int) := by omega
        have HSJ := Lib.hid (HSS.out j)
        rw [hwr.1] at HSJ
        clear hwr
        by_cases hc : j < cn
        · rw [HST.out j hc] at gk
          go_wp2_with fail
          refine (mod_is _ _ _ (by omega) (by omega)).mono ?_
          rintro e w4 ⟨rfl, rfl⟩
          rw [HK.out]
          go_wp2_with (at_builtin; refine wpList_push i0 hi hz0 hz1 hz2 Try.underlying50 rfl (.tmp 47) (.tmp 49) rfl _ (kk : Int) rfl _ (by simp) w2.heap.size A j c (stepsL X (k : Int) j) rfl rfl (HOW.out.up (by (repeat (first | with_reducible exact Up.refl _ | with_reducible refine Up.alloc ?_ _ | with_reducible refine Up.drew ?_ | with_reducible refine Up.drewN ?_ _ | with_reducible refine Up.setCell ?_ (by (try simp) <;> omega) _ | with_reducible assumption | with_reducible refine Up.trans ?_ (by assumption))))) (by omega) (by (try simp) <;> omega) ?_; intro A2 c2 w5 hown2 hg2 hbl2 _; have HO2 := Lib.hid hown2; have HB2 := Lib.hid hbl2; clear hown2 hg2 hbl2)
          go_roundw
          case rel => exact ⟨j + 1, A2, c2, by omega, rfl, by go_num, by rw [HSJ.out]; exact HO2.out, Up.past HUJ.out HB2.out⟩
          case measure => simp [intOf]; omega
        · obtain rfl : j = cn := by omega
          have hne := HEN.out (by omega)
          have hnb : (X.start ((k : Int) + 1 + (j : Int)) != (k : Int)) = true := by simpa using hne
          clear hne
          generalize X.start ((k : Int) + 1 + (j : Int)) = sv at *
          go_wp2_with fail
          refine (mod_is _ _ _ (by omega) (by omega)).mono ?_
          rintro e w4 ⟨rfl, rfl⟩
          rw [HK.out]
          go_wp2_with fail
          go_ret
          exact ⟨A, c, by rw [HPL.out, HSN.out]; rfl, by rw [HPL.out, HSN.out]; exact HOW.out.low (by omega), HU2.out.trans HUJ.out⟩
      · obtain rfl : j = cn := by omega
        clear hwr gk
        have hjm : ¬ (j : Int) + 1 < (m : Int) := by omega
        go_wp2_with fail
        go_ret
        exact ⟨A, c, by rw [HPL.out, HSN.out]; rfl, by rw [HPL.out, HSN.out]; exact HOW.out.low (by omega), HU2.out.trans HUJ.out⟩
end Go.Proofs.Ytjokcfenncogkaa
