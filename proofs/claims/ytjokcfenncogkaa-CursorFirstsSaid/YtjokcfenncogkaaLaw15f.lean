/-
  The walk of CursorFirsts: whatever the model, the acts and the places, it returns true. No condition but where they lie.
-/
import Derived.Test.YtjokcfenncogkaaCur2
import Derived.Test.YtjokcfenncogkaaAw15
namespace Go.Proofs.Ytjokcfenncogkaa
open Go.RowKit
set_option linter.unusedVariables false
set_option linter.unusedSimpArgs false

set_option maxRecDepth 100000 in
set_option maxHeartbeats 6400000 in
theorem law_firsts (m : Int) (A : Option Addr) (n cap : Nat) (l : List ActR) (A2 : Option Addr) (n2 cap2 : Nat) (l2 : List Int) (w : World) (m0 : 0 ≤ m) (m1 : m ≤ 255) (hl : l.length = n) (hn : n ≤ cap) (hc : cap ≤ maxLen) (hok : ∀ x ∈ l, x.Ok w w.heap.size) (hr : Reads w w.heap.size 11 A n (l.flatMap ActR.enc))
    (hl2 : l2.length = n2) (hn2 : n2 ≤ cap2) (hc2 : cap2 ≤ maxLen) (hw2 : ∀ x ∈ l2, -9223372036854775808 ≤ x ∧ x ≤ 9223372036854775807) (hr2 : Reads w w.heap.size 1 A2 n2 (l2.map (Value.int .i64))) :
    Calls Try.prog 5 #[.int .u8 m, .slice A n cap, .slice A2 n2 cap2] w fun e w' => e = .returned (.bool true) ∧ Up w w' := by
  have HWF := Lib.hid (show ∀ a ∈ plains l, a.Wf from fun a ha => by simp only [plains, List.mem_map] at ha; obtain ⟨x, hx, rfl⟩ := ha; exact (hok x hx).wf)
  have HOK := Lib.hid (layS_ok m0 HWF.out)
  have HLY := Lib.hid (fun W (hu : Up w W) => lay15_is (B := w.heap.size) (w := W) m0 m1 hu.size (hr.below hu) hl hn hc (fun x hx => (hok x hx).keep hu))
  have HR2 := Lib.hid (fun W (hu : Up w W) => hr2.below hu)
  have HL2 := Lib.hid hl2
  have hcp : (cap2 : Int) ≤ 9223372036854775807 := by simp [maxLen] at hc2; omega
  clear hok hr hl hr2 hl2 HWF
  go_enter Try.func5, Try.ntmps5
  go_wp2_with fail
  refine (awake15 _).mono ?_
  rintro e w0 ⟨rfl, hu0⟩
  have HU0 := Lib.hid hu0
  clear hu0
  go_wp2_with fail
  refine (HLY.out _ HU0.out).mono ?_
  rintro e w1 ⟨p, g, q, h, rfl, hs, hr, hne, hu1⟩
  have HZ0 := HU0.out.size
  have HNE := Lib.hid (show w.heap.size ≤ p ∧ w.heap.size ≤ g from ⟨by omega, by omega⟩)
  have HPQ := Lib.hid hne
  obtain ⟨X, hX⟩ : ∃ X, layS m (plains l) = X := ⟨_, rfl⟩
  rw [hX] at hs hr HOK
  have HU1 := Lib.hid (HU0.out.trans hu1)
  have HS1 := Lib.hid hs
  have HR1 := Lib.hid hr
  clear hs hr hu1 hX HLY hne
  go_wp2_with fail
  go_loopw [21] (fun i wr => ∃ j : Nat, j ≤ n2 ∧ i = .int .i64 (j : Int) ∧ Up w1 wr) (fun i _ => n2 - (intOf i).toNat)
  case atStart => exact ⟨0, by omega, rfl, Up.refl _⟩
  case round =>
    obtain ⟨j, hj, rfl, huj⟩ := hrel
    have HUJ := Lib.hid huj
    by_cases hlt : j < n2
    · obtain ⟨x, hx⟩ : ∃ x, l2[j]? = some x := ⟨_, List.getElem?_eq_getElem (by have := HL2.out; omega)⟩
      have hrd := HR2.out wr (HU1.out.trans huj)
      have hzz : w.heap.size ≤ wr.heap.size := (HU1.out.trans huj).size
      obtain ⟨b, off, rfl, hb⟩ := hrd.form (by omega)
      have hx0 : wr.cell? ⟨b, off + j, none⟩ = some (.int .i64 x) := by
        obtain ⟨_, u, hu, hcu⟩ := hrd.at_ (j := j) (by omega)
        rw [List.getElem?_map, hx] at hu
        rw [hcu]; exact hu.symm
      have zb : b < wr.heap.size := by omega
      have hjn : (j : Int) < (n2 : Int) := by omega
      clear hrd huj
      by_cases h8 : j < 8
      · have h8' : (j : Int) < 8 := by omega
        have HF := Lib.hid (cfirst_is x (HS1.out.up HUJ.out) HOK.out)
        have HG := Lib.hid (fun W (h' : RAt W q h X) => rfirst_is x h' HOK.out)
        generalize X.first x = v at *
        go_wp2_with fail
        refine HF.out.mono ?_
        rintro e w3 ⟨rfl, hu3⟩
        have HU3 := Lib.hid (HUJ.out.trans hu3)
        clear hu3
        go_wp2_with fail
        refine (HG.out _ (HR1.out.up HU3.out)).mono ?_
        rintro e w4 ⟨rfl, hu4⟩
        have HU4 := Lib.hid (HU3.out.trans hu4)
        clear hu4
        go_wp2_with fail
        go_roundw
        case rel => exact ⟨j + 1, by omega, by go_num, HU4.out⟩
        case measure => simp [intOf]; omega
      · have h8' : ¬ (j : Int) < 8 := by omega
        go_wp2_with fail
        go_roundw
        case rel => exact ⟨j + 1, by omega, by go_num, HUJ.out⟩
        case measure => simp [intOf]; omega
    · obtain rfl : j = n2 := by omega
      have HF := Lib.hid (chome_is (HS1.out.up HUJ.out) HOK.out)
      have HC := Lib.hid (fun W (h' : SAt W p g (X.goTo (X.first 0))) => scur_is h')
      have HG := Lib.hid (fun W (h' : RAt W q h X) => rfirst_is 0 h' HOK.out)
      have e0 : (X.goTo (X.first 0)).cur = X.first 0 := rfl
      rw [e0] at HC
      generalize X.first 0 = v at *
      clear huj e0
      go_wp2_with fail
      refine HF.out.mono ?_
      rintro e w3 ⟨rfl, hs3, hk3⟩
      have HS3 := Lib.hid hs3
      have HR3 := Lib.hid ((HR1.out.up HUJ.out).held hk3 (fun e => by have h9 := HPQ.out; rcases e with e | e <;> omega) (fun e => by have h9 := HPQ.out; rcases e with e | e <;> omega))
      have HU3 := Lib.hid ((HU1.out.trans HUJ.out).keep hk3 (fun i hi => by have h9 := HNE.out; rcases hi with hi | hi <;> omega))
      clear hs3 hk3
      go_wp2_with fail
      refine (HC.out _ HS3.out).mono ?_
      rintro e w4 ⟨rfl, rfl⟩
      go_wp2_with fail
      refine (HG.out _ HR3.out).mono ?_
      rintro e w4 ⟨rfl, hu4⟩
      have HU4 := Lib.hid (HU3.out.trans hu4)
      clear hu4
      go_wp2_with fail
      go_ret
      exact ⟨ret_bool (by simp), HU4.out⟩
end Go.Proofs.Ytjokcfenncogkaa
