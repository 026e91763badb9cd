/-
  What lay of layer 14 makes: a screen and the document's, alike. No condition but where the acts lie.
-/
import Derived.Test.YtjokcfenncogkaaLay0
namespace Go.Proofs.Ytjokcfenncogkaa
open Go.RowKit
set_option linter.unusedVariables false
set_option linter.unusedSimpArgs false

set_option maxRecDepth 100000 in
set_option maxHeartbeats 6400000 in
theorem lay14_is {B n cap : Nat} {m : Int} {A : Option Addr} {l : List ActR} {w : World} (m0 : 0 ≤ m) (m1 : m ≤ 255) (hB : B ≤ w.heap.size) (hr : Reads w B 11 A n (l.flatMap ActR.enc)) (hl : l.length = n) (hn : n ≤ cap) (hc : cap ≤ maxLen) (hok : ∀ x ∈ l, x.Ok w B) :
    Calls Try.prog 95 #[.int .u8 m, .slice A n cap] w fun e w' => ∃ p g q h, e = .returned (.tuple #[.pointer (some ⟨p, 0, none⟩), .pointer (some ⟨q, 0, none⟩)]) ∧ SAt w' p g (layS m (plains l)) ∧ RAt w' q h (layS m (plains l)) ∧
      (w.heap.size ≤ p ∧ w.heap.size ≤ g ∧ w.heap.size ≤ q ∧ w.heap.size ≤ h ∧ p ≠ q ∧ p ≠ h ∧ g ≠ q ∧ g ≠ h) ∧ Up w w' := by
  have HR := Lib.hid hr
  have HOK := Lib.hid hok
  have HL := Lib.hid hl
  have hcp : (cap : Int) ≤ 9223372036854775807 := by simp [maxLen] at hc; omega
  have hm2 : 2 ≤ 2 + m % 4 := by omega
  have hm5 : 2 + m % 4 ≤ 5 := by omega
  have hmd : 0 ≤ m % 4 ∧ m % 4 < 4 := by omega
  have HLS := Lib.hid (show layS m (plains l) = acts (newS (2 + m % 4)) (plains l) 30 from rfl)
  have HOX := Lib.hid (newS_ok hm2 hm5)
  have HWF := Lib.hid (show ∀ a ∈ plains l, a.Wf from fun a ha => by simp only [plains, List.mem_map] at ha; obtain ⟨x, hx, rfl⟩ := ha; exact (hok x hx).wf)
  have hd0 := hmd.1
  have hd1 := hmd.2
  clear hr hok hl hmd
  go_enter Try.func95, Try.ntmps95
  go_wp2_with fail
  generalize hmm : m % 4 = mm at *
  clear hmm
  refine (snew_is (m := 2 + mm) hm2 hm5).mono ?_
  rintro e w1 ⟨p, g, rfl, hp, hg, hs1, hu1⟩
  have HS1 := Lib.hid hs1
  have HU1 := Lib.hid hu1
  have zp1 := hs1.lt
  have zg1 := hs1.cells.2.1
  have z1 := hu1.size
  clear hs1 hu1
  go_wp2_with fail
  refine (rnew_is (m := 2 + mm) hm2 hm5).mono ?_
  rintro e w2 ⟨q, h, rfl, hq, hh, hr2, hu2⟩
  have HR2 := Lib.hid hr2
  have HU2 := Lib.hid hu2
  have z2 := hu2.size
  clear hr2 hu2
  go_wp2_with fail
  go_loopw [27] (fun i wr => ∃ (j h' : Nat), j ≤ n ∧ i = .int .i64 (j : Int) ∧ w1.heap.size ≤ h' ∧ RAt wr q h' (acts (newS (2 + mm)) (plains l) (min j 30)) ∧ Up w1 wr) (fun i _ => n - (intOf i).toNat)
  case atStart => exact ⟨0, h, by omega, rfl, hh, by simpa [acts] using HR2.out, HU2.out⟩
  case round =>
    obtain ⟨j, h', hj, rfl, hh', hrj, huj⟩ := hrel
    have HRJ := Lib.hid hrj
    have HUJ := Lib.hid huj
    have zz := huj.size
    have HOJ := Lib.hid (acts_ok HOX.out HWF.out (min j 30))
    clear hrj
    by_cases hlt : j < n
    · obtain ⟨x, hx⟩ : ∃ x, l[j]? = some x := ⟨_, List.getElem?_eq_getElem (by have := HL.out; omega)⟩
      have hxok := (HOK.out x (List.mem_of_getElem? hx)).keep (show Below B w wr from (HU1.out.trans huj).mono hB)
      have hrd := HR.out.below (show Below B w wr from (HU1.out.trans huj).mono hB)
      obtain ⟨b, off, rfl, hb⟩ := hrd.form (by omega)
      have hrow := row_at (k := 11) (enc := ActR.enc) (fun _ => rfl) hrd hx (by omega)
      have x0 := hrow 0 _ rfl
      have x1 := hrow 1 _ rfl
      have x2 := hrow 2 _ rfl
      have x3 := hrow 3 _ rfl
      have x4 := hrow 4 _ rfl
      have x5 := hrow 5 _ rfl
      have x6 := hrow 6 _ rfl
      have x7 := hrow 7 _ rfl
      have x8 := hrow 8 _ rfl
      have x9 := hrow 9 _ rfl
      have x10 := hrow 10 _ rfl
      rw [Nat.add_zero] at x0
      have zb : b < wr.heap.size := by omega
      have HXK := Lib.hid hxok
      have hpl : (plains l)[j]? = some x.a := by simp [plains, hx]
      have HAS := Lib.hid (acts_succ (newS (2 + mm)) (plains l) j)
      rw [hpl] at HAS
      simp only at HAS
      have hjn : (j : Int) < (n : Int) := by omega
      clear hrow hrd hxok hx hpl huj
      by_cases h30 : j < 30
      · have h30' : (j : Int) < 30 := by omega
        have hmin : min j 30 = j := by omega
        have HMIN := Lib.hid (show min (j + 1) 30 = j + 1 by omega)
        rw [hmin] at HRJ HOJ
        clear hmin
        go_wp2_with fail
        refine (rdo_is (B := B) x.a x.A x.cap HXK.out.wf (HRJ.out.up (by (repeat (first | with_reducible exact Up.refl _ | with_reducible refine Up.alloc ?_ _ | with_reducible refine Up.drew ?_ | with_reducible refine Up.drewN ?_ _ | with_reducible refine Up.setCell ?_ (by (try simp) <;> omega) _ | with_reducible assumption | with_reducible refine Up.trans ?_ (by assumption))))) HOJ.out (HXK.out.rd.alloc (by omega) _) (by omega) (by omega) (by simp; omega) HXK.out.le HXK.out.mx).mono ?_
        rintro e w3 ⟨rfl, h3, hr3, hk3, hh3⟩
        have HR3 := Lib.hid hr3
        have HU3 := Lib.hid (show Up w1 w3 from (HUJ.out.alloc _).keep hk3 (fun i hi => by rcases hi with hi | hi <;> omega))
        have h3b : w1.heap.size ≤ h3 := by simp at hh3; omega
        clear hr3 hk3 hh3
        go_wp2
        go_roundw
        case rel => exact ⟨j + 1, h3, by omega, by go_num, h3b, by rw [HMIN.out, HAS.out]; exact HR3.out, HU3.out⟩
        case measure => simp [intOf]; omega
      · have h30' : ¬ (j : Int) < 30 := by omega
        have hmin : min j 30 = min (j + 1) 30 := by omega
        rw [hmin] at HRJ
        clear hmin
        go_wp2
        go_roundw
        case rel => exact ⟨j + 1, h', by omega, by go_num, hh', HRJ.out.up (by (repeat (first | with_reducible exact Up.refl _ | with_reducible refine Up.alloc ?_ _ | with_reducible refine Up.drew ?_ | with_reducible refine Up.drewN ?_ _ | with_reducible refine Up.setCell ?_ (by (try simp) <;> omega) _ | with_reducible assumption | with_reducible refine Up.trans ?_ (by assumption)))), HUJ.out.alloc _⟩
        case measure => simp [intOf]; omega
    · obtain rfl : j = n := by omega
      have hX : acts (newS (2 + mm)) (plains l) (min j 30) = layS m (plains l) := by
        rw [HLS.out]
        unfold acts
        have hll : (plains l).length = j := by simp [plains, HL.out]
        rcases Nat.le_total j 30 with h | h
        · rw [Nat.min_eq_left h, List.take_of_length_le (by omega), List.take_of_length_le (by omega)]
        · rw [Nat.min_eq_right h]
      rw [hX] at HRJ HOJ
      have HMO := Lib.hid (show (layS m (plains l)).model = 2 + mm by rw [HLS.out, acts_model]; rfl)
      have HSJ := Lib.hid (HS1.out.up huj)
      have HST := Lib.hid (laidTo_start HOJ.out)
      have HUW := Lib.hid (HU1.out.trans huj)
      obtain ⟨X, hXE⟩ : ∃ X, layS m (plains l) = X := ⟨_, rfl⟩
      have HXE := Lib.hid hXE
      rw [hXE] at HRJ HOJ HMO HST
      clear hXE
      clear hX HLS HL HOX HWF HR HOK
      have HZ := Lib.hid (show p < w1.heap.size ∧ g < w1.heap.size ∧ w.heap.size ≤ p ∧ w.heap.size ≤ g ∧ w1.heap.size ≤ q ∧ w1.heap.size ≤ h' from ⟨zp1, zg1, hp, hg, hq, hh'⟩)
      have k1 := HRJ.out.h1
      have zq := HRJ.out.lt
      have HALT : Hid (∀ b, X.alt = b → laidTo X 0 = cleared (2 + mm) b) := Lib.hid (fun b hb => by rw [HST.out, HMO.out, hb])
      obtain ⟨b, hb⟩ : ∃ b, X.alt = b := ⟨_, rfl⟩
      have HB := Lib.hid hb
      rw [hb] at k1
      clear hb
      cases b
      · have HSA := Lib.hid (show SAt wr p g (laidTo X 0) by rw [HALT.out false HB.out]; exact HSJ.out)
        have HRA := HRJ
        have HUA := HUW
        have HG := Lib.hid (show w.heap.size ≤ g ∧ g ≠ q ∧ g ≠ h' by have := HZ.out; omega)
        have HPQ := Lib.hid (show p ≠ q ∧ p ≠ h' by have := HZ.out; omega)
        obtain ⟨capx, qc1, qc2, k4⟩ := HRA.out.h4
        have zq := HRA.out.lt
        have hsm := HOJ.out.small
        have hcx : (capx : Int) ≤ 9223372036854775807 := by simp [maxLen] at qc2; omega
        obtain ⟨M, hM⟩ : ∃ M, X.L.length = M := ⟨_, rfl⟩
        have HM := Lib.hid hM
        rw [hM] at qc1 k4 hsm
        clear hM qc2
        generalize wr = wa at *
        clear huj
        go_wp2_with fail
        go_loopw [49] (fun i wq => ∃ j : Nat, j ≤ M ∧ i = .int .i64 (j : Int) ∧ SAt wq p g (laidTo X j) ∧ RAt wq q h' X ∧ Up w wq) (fun i _ => M - (intOf i).toNat)
        case atStart => exact ⟨0, by omega, rfl, HSA.out, HRA.out, HUA.out⟩
        case round =>
          obtain ⟨i, hi, rfl, hsi, hri, hui⟩ := hrel
          have HSI := Lib.hid hsi
          have HRI := Lib.hid hri
          have HUI := Lib.hid hui
          have zc := hri.cells.2.1
          by_cases hlt : i < M
          · obtain ⟨c, hc⟩ : ∃ c, X.L[i]? = some c := ⟨_, List.getElem?_eq_getElem (by have := HM.out; omega)⟩
            obtain ⟨x0, x1, x2, x3, x4, x5⟩ := hri.cells.2.2 i c hc
            have HLO := Lib.hid (laidTo_ok HOJ.out (j := i) (by have := HM.out; omega))
            have HWF := Lib.hid (HOJ.out.wf c (List.mem_of_getElem? hc))
            have hiM : (i : Int) < (M : Int) := by omega
            by_cases hz : c = Cl.zero
            · have HSK := Lib.hid (show laidTo X i = laidTo X (i + 1) from laidTo_skip (by rw [← hz]; exact hc))
              clear hsi hri hui hc
              subst hz
              have ea : ∀ W : World, (Op.equalIn 10000 25 (.agg #[.int .u8 0, .bool false, .int .u8 0, .int .u8 0, .int .u8 0, .int .u8 0]) (.agg #[.int .u8 0, .bool false, .int .u8 0, .int .u8 0, .int .u8 0, .int .u8 0])).run Try.prog W = .ok true W := fun W => eqC (c := Cl.zero) (d := Cl.zero) (by simp) W
              simp only [Cl.zero] at x0 x1 x2 x3 x4 x5
              go_wp2
              go_roundw
              case rel => exact ⟨i + 1, by omega, by go_num, by rw [← HSK.out]; exact HSI.out.up (by (repeat (first | with_reducible exact Up.refl _ | with_reducible refine Up.alloc ?_ _ | with_reducible refine Up.drew ?_ | with_reducible refine Up.drewN ?_ _ | with_reducible refine Up.setCell ?_ (by (try simp) <;> omega) _ | with_reducible assumption | with_reducible refine Up.trans ?_ (by assumption)))), HRI.out.up (by (repeat (first | with_reducible exact Up.refl _ | with_reducible refine Up.alloc ?_ _ | with_reducible refine Up.drew ?_ | with_reducible refine Up.drewN ?_ _ | with_reducible refine Up.setCell ?_ (by (try simp) <;> omega) _ | with_reducible assumption | with_reducible refine Up.trans ?_ (by assumption)))), HUI.out.alloc _⟩
              case measure => simp [intOf]; omega
            · have HSK := Lib.hid (laidTo_set HOJ.out hc)
              have ea : ∀ W : World, (Op.equalIn 10000 25 (.agg #[.int .u8 c.ch, .bool c.at_, .int .u8 c.fa, .int .u8 c.hi, .int .u8 c.co, .int .u8 c.se]) (.agg #[.int .u8 0, .bool false, .int .u8 0, .int .u8 0, .int .u8 0, .int .u8 0])).run Try.prog W = .ok false W := fun W => eqC (c := c) (d := Cl.zero) (by simp [hz]) W
              clear hsi hri hui hc hz
              obtain ⟨ch, at_, fa, hi_, co, se⟩ := c
              simp only at x0 x1 x2 x3 x4 x5 ea
              go_wp2_with fail
              refine (sset_is (i : Int) ⟨ch, at_, fa, hi_, co, se⟩ HWF.out (HSI.out.up (by (repeat (first | with_reducible exact Up.refl _ | with_reducible refine Up.alloc ?_ _ | with_reducible refine Up.drew ?_ | with_reducible refine Up.drewN ?_ _ | with_reducible refine Up.setCell ?_ (by (try simp) <;> omega) _ | with_reducible assumption | with_reducible refine Up.trans ?_ (by assumption))))) HLO.out).mono ?_
              rintro e w5 ⟨rfl, hs5, hk5⟩
              have HS5 := Lib.hid hs5
              have HR5 := Lib.hid ((HRI.out.up ((Up.refl _).alloc _)).held hk5 (fun e => by have h1 := HG.out; have h2 := HPQ.out; rcases e with e | e <;> omega) (fun e => by have h1 := HG.out; have h2 := HPQ.out; rcases e with e | e <;> omega))
              have HU5 := Lib.hid ((HUI.out.alloc _).keep hk5 (fun i hi => by have h1 := HG.out; have h2 := HZ.out; rcases hi with hi | hi <;> omega))
              clear hs5 hk5
              go_wp2
              go_roundw
              case rel => exact ⟨i + 1, by omega, by go_num, by rw [← HSK.out]; exact HS5.out, HR5.out, HU5.out⟩
              case measure => simp [intOf]; omega
          · obtain rfl : i = M := by omega
            have k5 := hri.h5
            have zq5 := hri.lt
            clear hsi hri hui
            go_wp2_with fail
            refine (splace_is X.cur HSI.out (laidTo_ok HOJ.out (by have := HM.out; omega))).mono ?_
            rintro e w5 ⟨rfl, hs5, hk5⟩
            have HS5 := Lib.hid hs5
            have HR5 := Lib.hid (HRI.out.held hk5 (fun e => by have h1 := HG.out; have h2 := HPQ.out; rcases e with e | e <;> omega) (fun e => by have h1 := HG.out; have h2 := HPQ.out; rcases e with e | e <;> omega))
            have HU5 := Lib.hid (HUI.out.keep hk5 (fun i hi => by have h1 := HG.out; have h2 := HZ.out; rcases hi with hi | hi <;> omega))
            have HPL := Lib.hid (place_all HOJ.out)
            clear hs5 hk5
            go_wp2_with fail
            go_ret2
            have h1 := HG.out
            have h2 := HPQ.out
            have h3 := HZ.out
            refine ⟨p, g, q, h', rfl, ?_, by rw [HXE.out]; exact HR5.out, ⟨h3.2.2.1, h1.1, by omega, by omega, h2.1, h2.2, h1.2.1, h1.2.2⟩, HU5.out⟩
            have h4 := HS5.out
            rw [← HM.out, HPL.out] at h4
            rw [HXE.out]
            exact h4
      · go_wp2_with fail
        refine (sclear_is true HSJ.out (newS_ok hm2 hm5)).mono ?_
        rintro e w3 ⟨rfl, g3, hg3, hs3, hk3⟩
        have HSA := Lib.hid (show SAt w3 p g3 (laidTo X 0) by rw [HALT.out true HB.out]; exact hs3)
        have HRA := Lib.hid (HRJ.out.held hk3 (fun e => by have := HZ.out; omega) (fun e => by have := HZ.out; omega))
        have HUA := Lib.hid (HUW.out.keep hk3 (fun i hi => by have := HZ.out; omega))
        have HG := Lib.hid (show w.heap.size ≤ g3 ∧ g3 ≠ q ∧ g3 ≠ h' by have h1 := HZ.out; have h2 := HRJ.out.lt; have h3 := HRJ.out.cells.2.1; have h4 := HUW.out.size; omega)
        have HPQ := Lib.hid (show p ≠ q ∧ p ≠ h' by have := HZ.out; omega)
        clear hs3 hk3 hg3
        generalize g = g0 at *
        generalize g3 = g at *
        obtain ⟨capx, qc1, qc2, k4⟩ := HRA.out.h4
        have zq := HRA.out.lt
        have hsm := HOJ.out.small
        have hcx : (capx : Int) ≤ 9223372036854775807 := by simp [maxLen] at qc2; omega
        obtain ⟨M, hM⟩ : ∃ M, X.L.length = M := ⟨_, rfl⟩
        have HM := Lib.hid hM
        rw [hM] at qc1 k4 hsm
        clear hM qc2 k1
        generalize w3 = wa at *
        clear huj
        go_wp2_with fail
        go_loopw [49] (fun i wq => ∃ j : Nat, j ≤ M ∧ i = .int .i64 (j : Int) ∧ SAt wq p g (laidTo X j) ∧ RAt wq q h' X ∧ Up w wq) (fun i _ => M - (intOf i).toNat)
        case atStart => exact ⟨0, by omega, rfl, HSA.out, HRA.out, HUA.out⟩
        case round =>
          obtain ⟨i, hi, rfl, hsi, hri, hui⟩ := hrel
          have HSI := Lib.hid hsi
          have HRI := Lib.hid hri
          have HUI := Lib.hid hui
          have zc := hri.cells.2.1
          by_cases hlt : i < M
          · obtain ⟨c, hc⟩ : ∃ c, X.L[i]? = some c := ⟨_, List.getElem?_eq_getElem (by have := HM.out; omega)⟩
            obtain ⟨x0, x1, x2, x3, x4, x5⟩ := hri.cells.2.2 i c hc
            have HLO := Lib.hid (laidTo_ok HOJ.out (j := i) (by have := HM.out; omega))
            have HWF := Lib.hid (HOJ.out.wf c (List.mem_of_getElem? hc))
            have hiM : (i : Int) < (M : Int) := by omega
            by_cases hz : c = Cl.zero
            · have HSK := Lib.hid (show laidTo X i = laidTo X (i + 1) from laidTo_skip (by rw [← hz]; exact hc))
              clear hsi hri hui hc
              subst hz
              have ea : ∀ W : World, (Op.equalIn 10000 25 (.agg #[.int .u8 0, .bool false, .int .u8 0, .int .u8 0, .int .u8 0, .int .u8 0]) (.agg #[.int .u8 0, .bool false, .int .u8 0, .int .u8 0, .int .u8 0, .int .u8 0])).run Try.prog W = .ok true W := fun W => eqC (c := Cl.zero) (d := Cl.zero) (by simp) W
              simp only [Cl.zero] at x0 x1 x2 x3 x4 x5
              go_wp2
              go_roundw
              case rel => exact ⟨i + 1, by omega, by go_num, by rw [← HSK.out]; exact HSI.out.up (by (repeat (first | with_reducible exact Up.refl _ | with_reducible refine Up.alloc ?_ _ | with_reducible refine Up.drew ?_ | with_reducible refine Up.drewN ?_ _ | with_reducible refine Up.setCell ?_ (by (try simp) <;> omega) _ | with_reducible assumption | with_reducible refine Up.trans ?_ (by assumption)))), HRI.out.up (by (repeat (first | with_reducible exact Up.refl _ | with_reducible refine Up.alloc ?_ _ | with_reducible refine Up.drew ?_ | with_reducible refine Up.drewN ?_ _ | with_reducible refine Up.setCell ?_ (by (try simp) <;> omega) _ | with_reducible assumption | with_reducible refine Up.trans ?_ (by assumption)))), HUI.out.alloc _⟩
              case measure => simp [intOf]; omega
            · have HSK := Lib.hid (laidTo_set HOJ.out hc)
              have ea : ∀ W : World, (Op.equalIn 10000 25 (.agg #[.int .u8 c.ch, .bool c.at_, .int .u8 c.fa, .int .u8 c.hi, .int .u8 c.co, .int .u8 c.se]) (.agg #[.int .u8 0, .bool false, .int .u8 0, .int .u8 0, .int .u8 0, .int .u8 0])).run Try.prog W = .ok false W := fun W => eqC (c := c) (d := Cl.zero) (by simp [hz]) W
              clear hsi hri hui hc hz
              obtain ⟨ch, at_, fa, hi_, co, se⟩ := c
              simp only at x0 x1 x2 x3 x4 x5 ea
              go_wp2_with fail
              refine (sset_is (i : Int) ⟨ch, at_, fa, hi_, co, se⟩ HWF.out (HSI.out.up (by (repeat (first | with_reducible exact Up.refl _ | with_reducible refine Up.alloc ?_ _ | with_reducible refine Up.drew ?_ | with_reducible refine Up.drewN ?_ _ | with_reducible refine Up.setCell ?_ (by (try simp) <;> omega) _ | with_reducible assumption | with_reducible refine Up.trans ?_ (by assumption))))) HLO.out).mono ?_
              rintro e w5 ⟨rfl, hs5, hk5⟩
              have HS5 := Lib.hid hs5
              have HR5 := Lib.hid ((HRI.out.up ((Up.refl _).alloc _)).held hk5 (fun e => by have h1 := HG.out; have h2 := HPQ.out; rcases e with e | e <;> omega) (fun e => by have h1 := HG.out; have h2 := HPQ.out; rcases e with e | e <;> omega))
              have HU5 := Lib.hid ((HUI.out.alloc _).keep hk5 (fun i hi => by have h1 := HG.out; have h2 := HZ.out; rcases hi with hi | hi <;> omega))
              clear hs5 hk5
              go_wp2
              go_roundw
              case rel => exact ⟨i + 1, by omega, by go_num, by rw [← HSK.out]; exact HS5.out, HR5.out, HU5.out⟩
              case measure => simp [intOf]; omega
          · obtain rfl : i = M := by omega
            have k5 := hri.h5
            have zq5 := hri.lt
            clear hsi hri hui
            go_wp2_with fail
            refine (splace_is X.cur HSI.out (laidTo_ok HOJ.out (by have := HM.out; omega))).mono ?_
            rintro e w5 ⟨rfl, hs5, hk5⟩
            have HS5 := Lib.hid hs5
            have HR5 := Lib.hid (HRI.out.held hk5 (fun e => by have h1 := HG.out; have h2 := HPQ.out; rcases e with e | e <;> omega) (fun e => by have h1 := HG.out; have h2 := HPQ.out; rcases e with e | e <;> omega))
            have HU5 := Lib.hid (HUI.out.keep hk5 (fun i hi => by have h1 := HG.out; have h2 := HZ.out; rcases hi with hi | hi <;> omega))
            have HPL := Lib.hid (place_all HOJ.out)
            clear hs5 hk5
            go_wp2_with fail
            go_ret2
            have h1 := HG.out
            have h2 := HPQ.out
            have h3 := HZ.out
            refine ⟨p, g, q, h', rfl, ?_, by rw [HXE.out]; exact HR5.out, ⟨h3.2.2.1, h1.1, by omega, by omega, h2.1, h2.2, h1.2.1, h1.2.2⟩, HU5.out⟩
            have h4 := HS5.out
            rw [← HM.out, HPL.out] at h4
            rw [HXE.out]
            exact h4
end Go.Proofs.Ytjokcfenncogkaa
