/-
  The walk of CursorPlays: whatever the model, the acts and the script, it returns true. No condition but where they lie.
-/
import Derived.Test.YtjokcfenncogkaaRdo15b
import Derived.Test.YtjokcfenncogkaaAw15
import Derived.Test.YtjokcfenncogkaaSdiff
import Derived.Test.YtjokcfenncogkaaSame12
namespace Go.Proofs.Ytjokcfenncogkaa
open Go.RowKit
set_option linter.unusedVariables false
set_option linter.unusedSimpArgs false

def cstep (Y : Spc) (a : Int × Int × Int) : Spc := Y.goTo (cactN Y a.1 a.2.1 a.2.2)
def cplay (X : Spc) (l : List (Int × Int × Int)) (j : Nat) : Spc := (l.take j).foldl cstep X
theorem cplay_succ {X : Spc} {l : List (Int × Int × Int)} {j : Nat} {a : Int × Int × Int} (h : l[j]? = some a) : cplay X l (j + 1) = (cplay X l j).goTo (cactN (cplay X l j) a.1 a.2.1 a.2.2) := by
  unfold cplay
  obtain ⟨h1, h2⟩ := List.getElem?_eq_some_iff.1 h
  rw [List.take_succ_eq_append_getElem h1, List.foldl_append, h2]; rfl
theorem cplay_ok {X : Spc} (ok : X.Ok) (l : List (Int × Int × Int)) : ∀ j, (cplay X l j).Ok ∧ (cplay X l j).L = X.L ∧ (cplay X l j).r = X.r ∧ (cplay X l j).c = X.c := by
  intro j
  unfold cplay
  generalize l.take j = l'
  induction l' generalizing X with
  | nil => exact ⟨ok, rfl, rfl, rfl⟩
  | cons a l' ih =>
    have hb := cactN_bd ok a.1 a.2.1 a.2.2
    exact ih (X := cstep X a) (goTo_ok ok hb.1 hb.2)
set_option maxRecDepth 100000 in
set_option maxHeartbeats 12800000 in
theorem law_plays15 (m : Int) (A : Option Addr) (n cap : Nat) (l : List ActR) (A2 : Option Addr) (n2 cap2 : Nat) (l2 : List (Int × Int × Int)) (w : World) (m0 : 0 ≤ m) (m1 : m ≤ 255) (hl : l.length = n) (hn : n ≤ cap) (hc : cap ≤ maxLen) (hok : ∀ x ∈ l, x.Ok w w.heap.size) (hr : Reads w w.heap.size 11 A n (l.flatMap ActR.enc))
    (hl2 : l2.length = n2) (hn2 : n2 ≤ cap2) (hc2 : cap2 ≤ maxLen) (hw2 : ∀ x ∈ l2, 0 ≤ x.1 ∧ x.1 ≤ 255 ∧ -9223372036854775808 ≤ x.2.1 ∧ x.2.1 ≤ 9223372036854775807 ∧ -9223372036854775808 ≤ x.2.2 ∧ x.2.2 ≤ 9223372036854775807) (hr2 : Reads w w.heap.size 3 A2 n2 (l2.flatMap (fun x => [.int .u8 x.1, .int .i64 x.2.1, .int .i64 x.2.2]))) :
    Calls Try.prog 13 #[.int .u8 m, .slice A n cap, .slice A2 n2 cap2] w fun e w' => e = .returned (.bool true) ∧ Up w w' := by
  have HWF := Lib.hid (show ∀ a ∈ plains l, a.Wf from fun a ha => by simp only [plains, List.mem_map] at ha; obtain ⟨x, hx, rfl⟩ := ha; exact (hok x hx).wf)
  have HOK := Lib.hid (layS_ok m0 HWF.out)
  have HLY := Lib.hid (fun W (hu : Up w W) => lay15_is (B := w.heap.size) (w := W) m0 m1 hu.size (hr.below hu) hl hn hc (fun x hx => (hok x hx).keep hu))
  have HR2 := Lib.hid (fun W (hu : Up w W) => hr2.below hu)
  have HL2 := Lib.hid hl2
  have HW2 := Lib.hid hw2
  have hcp : (cap2 : Int) ≤ 9223372036854775807 := by simp [maxLen] at hc2; omega
  clear hok hr hl hr2 hl2 HWF hw2
  go_enter Try.func13, Try.ntmps13
  go_wp2_with fail
  refine (awake15 _).mono ?_
  rintro e w0 ⟨rfl, hu0⟩
  have HU0 := Lib.hid hu0
  clear hu0
  go_wp2_with fail
  refine (HLY.out _ HU0.out).mono ?_
  rintro e w1 ⟨p, g, q, h, rfl, hs, hr, hne, hu1⟩
  have HZ0 := HU0.out.size
  obtain ⟨X, hX⟩ : ∃ X, layS m (plains l) = X := ⟨_, rfl⟩
  rw [hX] at hs hr HOK
  have HU1 := Lib.hid (HU0.out.trans hu1)
  have HS1 := Lib.hid hs
  have HR1 := Lib.hid hr
  have HCP := Lib.hid (scopy_is hs HOK.out)
  have HNE0 := Lib.hid hne
  clear hs hr hu1 hX HLY hne
  go_wp2_with fail
  refine HCP.out.mono ?_
  rintro e w2 ⟨p2, g2, rfl, hp2, hg2, hs2, hu2⟩
  have HNE := Lib.hid (show (w.heap.size ≤ p ∧ w.heap.size ≤ g ∧ w.heap.size ≤ q ∧ w.heap.size ≤ h ∧ p ≠ q ∧ p ≠ h ∧ g ≠ q ∧ g ≠ h) ∧ (p2 ≠ p ∧ p2 ≠ g ∧ p2 ≠ q ∧ p2 ≠ h ∧ g2 ≠ p ∧ g2 ≠ g ∧ g2 ≠ q ∧ g2 ≠ h) from by
    have h1 := HS1.out.lt
    have h2 := HS1.out.cells.2.1
    have h3 := HR1.out.lt
    have h4 := HR1.out.cells.2.1
    have h5 := HNE0.out
    exact ⟨⟨by omega, by omega, by omega, by omega, by omega, by omega, by omega, by omega⟩, by omega, by omega, by omega, by omega, by omega, by omega, by omega, by omega⟩)
  have HS2 := Lib.hid hs2
  have HSU := Lib.hid (HS1.out.up hu2)
  have HRU := Lib.hid (HR1.out.up hu2)
  have HU2 := Lib.hid (HU1.out.trans hu2)
  clear hs2 hu2 HCP hp2 hg2 HS1 HR1
  go_wp2_with fail
  go_loopw [24] (fun i wr => ∃ j : Nat, j ≤ n2 ∧ i = .int .i64 (j : Int) ∧ SAt wr p g (cplay X l2 j) ∧ RAt wr q h (cplay X l2 j) ∧ SAt wr p2 g2 X ∧ Up w wr) (fun i _ => n2 - (intOf i).toNat)
  case atStart => exact ⟨0, by omega, rfl, HSU.out, HRU.out, HS2.out, HU2.out⟩
  case round =>
    obtain ⟨j, hj, rfl, hsj, hrj, hs2j, huj⟩ := hrel
    have HUJ := Lib.hid huj
    have HSJ := Lib.hid hsj
    have HRJ := Lib.hid hrj
    have HS2J := Lib.hid hs2j
    have HPK := Lib.hid (cplay_ok HOK.out l2 j)
    clear hsj hrj hs2j
    by_cases hlt : j < n2
    · obtain ⟨x, hx⟩ : ∃ x, l2[j]? = some x := ⟨_, List.getElem?_eq_getElem (by have := HL2.out; omega)⟩
      have HSC := Lib.hid (cplay_succ (X := X) hx)
      obtain ⟨w0a, w0b, -⟩ := HW2.out x (List.mem_of_getElem? hx)
      have hrd := HR2.out wr huj
      have hzz : w.heap.size ≤ wr.heap.size := huj.size
      obtain ⟨b, off, rfl, hb⟩ := hrd.form (by omega)
      have hrow := row_at (k := 3) (fun _ => rfl) hrd hx (by omega)
      have x0 := hrow 0 _ rfl
      have x1 := hrow 1 _ rfl
      have x2 := hrow 2 _ rfl
      rw [Nat.add_zero] at x0
      have zb : b < wr.heap.size := by omega
      have hjn : (j : Int) < (n2 : Int) := by omega
      have HZZ := Lib.hid hzz
      clear hrd huj hrow hx hzz
      obtain ⟨Y, hY⟩ : ∃ Y, cplay X l2 j = Y := ⟨_, rfl⟩
      rw [hY] at HSJ HRJ HSC HPK
      clear hY
      by_cases h15 : j < 15
      · have h15' : ¬ 15 ≤ (j : Int) := by omega
        obtain ⟨xd, xr, xc⟩ := x
        simp only at x0 x1 x2 w0a w0b HSC
        have HD := Lib.hid (fun W (h : SAt W p g Y) => cdo_is xd xr xc w0a w0b h HPK.out.1)
        have HD2 := Lib.hid (fun W (h' : RAt W q h Y) => rdo15_is xd xr xc w0a w0b h' HPK.out.1)
        obtain ⟨Z, hZ⟩ : ∃ Z, Y.goTo (cactN Y xd xr xc) = Z := ⟨_, rfl⟩
        rw [hZ] at HD HD2 HSC
        clear hZ
        go_wp2_with fail
        refine (HD.out _ (HSJ.out.up ((Up.refl wr).alloc _))).mono ?_
        rintro e w3 ⟨rfl, hs3, hk3⟩
        have HBX := Lib.hid (hk3.at_ wr.heap.size (by simp) (fun e => by have h1 := HSJ.out.lt; have h2 := HSJ.out.cells.2.1; rcases e with e | e <;> omega))
        have y0 := (HBX.out.1 0).trans (by simp [go_sem] : _ = some (.int .u8 xd))
        have y1 := (HBX.out.1 1).trans (by simp [go_sem] : _ = some (.int .i64 xr))
        have y2 := (HBX.out.1 2).trans (by simp [go_sem] : _ = some (.int .i64 xc))
        have z3 : wr.heap.size < w3.heap.size := by have := hk3.size; simp at this; omega
        have HS3 := Lib.hid hs3
        have HR3 := Lib.hid ((HRJ.out.up ((Up.refl wr).alloc _)).held hk3 (fun e => by have h9 := HNE.out; rcases e with e | e <;> omega) (fun e => by have h9 := HNE.out; rcases e with e | e <;> omega))
        have HT3 := Lib.hid ((HS2J.out.up ((Up.refl wr).alloc _)).held hk3 (fun e => by have h9 := HNE.out; rcases e with e | e <;> omega) (fun e => by have h9 := HNE.out; rcases e with e | e <;> omega))
        have HU3 := Lib.hid ((HUJ.out.alloc _).keep hk3 (fun i hi => by have h9 := HNE.out; rcases hi with hi | hi <;> omega))
        clear hs3 hk3 HBX x0 x1 x2 zb
        go_wp2_with fail
        refine (HD2.out _ HR3.out).mono ?_
        rintro e w4 ⟨rfl, hr4, hk4⟩
        have HR4 := Lib.hid hr4
        have HS4 := Lib.hid (HS3.out.held hk4 (fun e => by have h9 := HNE.out; rcases e with e | e <;> omega) (fun e => by have h9 := HNE.out; rcases e with e | e <;> omega))
        have HT4 := Lib.hid (HT3.out.held hk4 (fun e => by have h9 := HNE.out; rcases e with e | e <;> omega) (fun e => by have h9 := HNE.out; rcases e with e | e <;> omega))
        have HU4 := Lib.hid (HU3.out.keep hk4 (fun i hi => by have h9 := HNE.out; rcases hi with hi | hi <;> omega))
        have k5 := HR4.out.h5
        have zq := HR4.out.lt
        have HCU := Lib.hid (fun W (h : SAt W p g Z) => scur_is h)
        generalize Z.cur = cu at *
        clear hr4 hk4 y0 y1 y2
        go_wp2_with fail
        refine wp_region_mix (NS := []) [] rfl (by kernel_rfl) (by kernel_rfl) (by simp) (by simp) ?_
        repeat (first
          | (refine mix_skip rfl rfl ?_; simp only [Act.put, List.setIfInBounds_toArray, List.set_cons_succ, List.set_cons_zero])
          | (refine mix_q rfl rfl rfl (by kernel_rfl) rfl rfl rfl ?_
             apply Exists.intro
             refine ⟨fun Wm => ?_, ?_⟩
             · simp only [fin]
               skip
               intro K hK
               go_wp2_with ((go_at_call 33; (with_reducible refine (HCU.out _ (HS4.out.up (up_upOf _ _))).mono ?_); rintro e w' ⟨rfl, rfl⟩))
               refine hK _ _ ?_ ?_ ?_
               · (repeat (first | with_reducible exact Up.refl _ | with_reducible refine Up.alloc ?_ _ | with_reducible refine Up.drew ?_ | with_reducible refine Up.drewN ?_ _ | with_reducible refine Up.setCell ?_ (by (try simp) <;> omega) _ | with_reducible assumption | with_reducible refine Up.trans ?_ (by assumption)))
               · rfl
               · exact tmps_at rfl
             simp only [Act.put, List.setIfInBounds_toArray, List.set_cons_succ, List.set_cons_zero]))
        refine mix_nil ?_
        intro w5 hb_w5
        simp only [fin]
        have hu_w5 : Up w4 w5 := by (repeat (first | with_reducible exact Up.refl _ | with_reducible refine Up.alloc ?_ _ | with_reducible refine Up.drew ?_ | with_reducible refine Up.drewN ?_ _ | with_reducible refine Up.setCell ?_ (by (try simp) <;> omega) _ | with_reducible assumption | with_reducible refine Up.trans ?_ (by assumption)))
        have hz_w5 := Up.size hb_w5
        try simp at hz_w5
        obtain ⟨bc_w5_0, bf_w5_0⟩ := hu_w5.at_ (q) (by omega)
        have zb_w5_0 : q < w5.heap.size := by omega
        go_wp2_with fail
        go_roundw
        case rel => exact ⟨j + 1, by omega, by go_num, by rw [HSC.out]; exact HS4.out.up hb_w5, by rw [HSC.out]; exact HR4.out.up hb_w5, HT4.out.up hb_w5, HU4.out.trans hb_w5⟩
        case measure => simp [intOf]; omega
      · have h15' : 15 ≤ (j : Int) := by omega
        have HDF := Lib.hid (fun W (h1 : SAt W p g Y) (h2 : SAt W p2 g2 X) => sdiff_is h1 h2 HPK.out.1 HOK.out HPK.out.2.1.symm HPK.out.2.2.1.symm HPK.out.2.2.2.symm)
        go_wp2_with fail
        refine (HDF.out _ (HSJ.out.up ((Up.refl wr).alloc _)) (HS2J.out.up ((Up.refl wr).alloc _))).mono ?_
        rintro e w5 ⟨rfl, hu5⟩
        have HU5 := Lib.hid ((HUJ.out.alloc _).trans hu5)
        clear hu5
        go_wp2_with fail
        go_ret
        exact ⟨rfl, HU5.out⟩
    · have HDF := Lib.hid (fun W (h1 : SAt W p g (cplay X l2 j)) (h2 : SAt W p2 g2 X) => sdiff_is h1 h2 HPK.out.1 HOK.out HPK.out.2.1.symm HPK.out.2.2.1.symm HPK.out.2.2.2.symm)
      obtain rfl : j = n2 := by omega
      clear huj
      go_wp2_with fail
      refine (HDF.out _ HSJ.out HS2J.out).mono ?_
      rintro e w5 ⟨rfl, hu5⟩
      have HU5 := Lib.hid (HUJ.out.trans hu5)
      clear hu5
      go_wp2_with fail
      go_ret
      exact ⟨rfl, HU5.out⟩
end Go.Proofs.Ytjokcfenncogkaa
