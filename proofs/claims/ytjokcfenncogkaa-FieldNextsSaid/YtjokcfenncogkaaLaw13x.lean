/-
  The walk of FieldNexts. No condition but where the arguments lie.
-/
import Derived.Test.YtjokcfenncogkaaRf13d
import Derived.Test.YtjokcfenncogkaaAw13
namespace Go.Proofs.Ytjokcfenncogkaa
open Go.RowKit
set_option linter.unusedVariables false
set_option linter.unusedSimpArgs false

theorem find_fst {X : Spc} (ok : X.Ok) {n s : Int} (h : 0 ≤ X.find n s) : X.fst (X.find n s) = true ∧ X.find n s < X.r * X.c := by
  unfold Spc.find at h ⊢
  cases e : X.far n s with
  | none => rw [e] at h; simp at h
  | some d =>
    obtain ⟨h1, h2, h3⟩ := least_some.1 e
    simp only
    exact ⟨by rw [← h2]; exact fst_congr (by simp), Int.emod_lt_of_pos _ (Spc.pos ok)⟩
/-- back, and on again: where one was -/
theorem find_again {X : Spc} (ok : X.Ok) {a : Int} (h0 : 0 ≤ a) (h1 : a < X.r * X.c) (hf : X.fst a = true) : X.find (X.find a (-1)) 1 = a := by
  have hl := ok.len
  have hp := Spc.pos ok
  have hb := ok.big
  have hq : (fun d : Nat => X.fst (a + -1 * ((d : Int) + 1))) (X.L.length - 1) = true := by
    show X.fst (a + -1 * (((X.L.length - 1 : Nat) : Int) + 1)) = true
    rw [← hf]
    refine fst_congr ?_
    rw [show a + -1 * (((X.L.length - 1 : Nat) : Int) + 1) = a - X.r * X.c by omega]
    simp
  obtain ⟨D, d1, d2, d3, d4, d5⟩ := least_of (p := fun d : Nat => X.fst (a + -1 * ((d : Int) + 1))) (n := X.L.length) (by omega) hq
  have hfar : X.far a (-1) = some D := d1
  have hfind : X.find a (-1) = (a + -1 * ((D : Int) + 1)) % (X.r * X.c) := by unfold Spc.find; rw [hfar]
  rw [hfind, find_emod]
  have hfar2 : X.far (a + -1 * ((D : Int) + 1)) 1 = some D := by
    refine least_some.2 ⟨d3, ?_, fun j hj => ?_⟩
    · rw [show a + -1 * ((D : Int) + 1) + 1 * ((D : Int) + 1) = a by omega]; exact hf
    · have := d5 (D - j - 1) (by omega)
      try simp only at this
      rw [← this]
      congr 1
      omega
  unfold Spc.find
  rw [hfar2]
  simp only
  rw [show a + -1 * ((D : Int) + 1) + 1 * ((D : Int) + 1) = a by omega, Int.emod_eq_of_lt h0 h1]
set_option maxRecDepth 100000 in
set_option maxHeartbeats 6400000 in
theorem law_nexts (m : Int) (A : Option Addr) (n cap : Nat) (l : List ActR) (A2 : Option Addr) (n2 cap2 : Nat) (l2 : List Int) (w : World) (m0 : 0 ≤ m) (m1 : m ≤ 255) (hl : l.length = n) (hn : n ≤ cap) (hc : cap ≤ maxLen) (hok : ∀ x ∈ l, x.Ok w w.heap.size) (hr : Reads w w.heap.size 11 A n (l.flatMap ActR.enc))
    (hl2 : l2.length = n2) (hn2 : n2 ≤ cap2) (hc2 : cap2 ≤ maxLen) (hb2 : ∀ x ∈ l2, -9223372036854775808 ≤ x ∧ x ≤ 9223372036854775807) (hr2 : Reads w w.heap.size 1 A2 n2 (l2.map (Value.int .i64))) :
    Calls Try.prog 4 #[.int .u8 m, .slice A n cap, .slice A2 n2 cap2] w fun e w' => e = .returned (.bool true) ∧ Up w w' := by
  have hcp : (cap2 : Int) ≤ 9223372036854775807 := by simp [maxLen] at hc2; omega
  have HL2 := Lib.hid hl2
  have HR2 := Lib.hid hr2
  have HB2 := Lib.hid hb2
  have HWF := Lib.hid (show ∀ a ∈ plains l, a.Wf from fun a ha => by simp only [plains, List.mem_map] at ha; obtain ⟨x, hx, rfl⟩ := ha; exact (hok x hx).wf)
  have HOK := Lib.hid (layS_ok m0 HWF.out)
  have HLY := Lib.hid (fun W (hu : Up w W) => lay13_is (B := w.heap.size) (w := W) m0 m1 hu.size (hr.below hu) hl hn hc (fun x hx => (hok x hx).keep hu))
  clear hok hr hl hl2 hr2 hb2 HWF
  go_enter Try.func4, Try.ntmps4
  go_wp2_with fail
  refine (awake13 _).mono ?_
  rintro e w0 ⟨rfl, hu0⟩
  have HU0 := Lib.hid hu0
  clear hu0
  go_wp2_with fail
  refine (HLY.out _ HU0.out).mono ?_
  rintro e w1 ⟨p, g, q, h, rfl, hs, hr, -, hu1⟩
  obtain ⟨X, hX⟩ : ∃ X, layS m (plains l) = X := ⟨_, rfl⟩
  rw [hX] at hs hr HOK
  have HS := Lib.hid hs
  have HR := Lib.hid hr
  have HU1 := Lib.hid (HU0.out.trans hu1)
  clear hs hr hu1 hX HLY
  go_wp2_with fail
  go_loopw [23] (fun i wr => ∃ j : Nat, j ≤ n2 ∧ i = .int .i64 (j : Int) ∧ Up w1 wr) (fun i _ => n2 - (intOf i).toNat)
  case atStart => exact ⟨0, by omega, rfl, Up.refl _⟩
  case round =>
    obtain ⟨j, hj, rfl, huj⟩ := hrel
    have HUJ := Lib.hid huj
    have HUW := Lib.hid (HU1.out.trans huj)
    clear huj
    by_cases hlt : j < n2
    · obtain ⟨x, hx⟩ : ∃ x, l2[j]? = some x := ⟨_, List.getElem?_eq_getElem (by have := HL2.out; omega)⟩
      have hxb := HB2.out x (List.mem_of_getElem? hx)
      have hrd := HR2.out.below HUW.out
      obtain ⟨b, off, rfl, hb⟩ := hrd.form (by omega)
      obtain ⟨hbl, u, hu, hcl⟩ := hrd.at_ (j := j) (by omega)
      have hux : u = .int .i64 x := by
        rw [List.getElem?_map, hx] at hu
        injection hu with hu
        exact hu.symm
      subst hux
      have zb : b < wr.heap.size := by have := HUW.out.size; omega
      have hjm : (j : Int) < (n2 : Int) := by omega
      have HN := Lib.hid (fun W (h' : SAt W p g X) => fnext_is x h' HOK.out)
      have HV := Lib.hid (fun W (h' : SAt W p g X) => fprev_is x h' HOK.out)
      have HRN := Lib.hid (fun W (h' : RAt W q h X) => rnext_f x h' HOK.out)
      have HRV := Lib.hid (fun W (h' : RAt W q h X) => rnext_b x h' HOK.out)
      have HFF := Lib.hid (fun (h : 0 ≤ X.find x 1) => find_again HOK.out h (find_fst HOK.out h).2 (find_fst HOK.out h).1)
      obtain ⟨a, ha⟩ : ∃ a, X.find x 1 = a := ⟨_, rfl⟩
      obtain ⟨a2, ha2⟩ : ∃ a2, X.find x (-1) = a2 := ⟨_, rfl⟩
      rw [ha] at HN HRN HFF
      rw [ha2] at HV HRV
      clear ha ha2 hx hu hrd hbl
      obtain ⟨x0, x1⟩ := hxb
      have HSJ := Lib.hid (HS.out.up HUJ.out)
      have HRJ := Lib.hid (HR.out.up HUJ.out)
      by_cases h8 : 8 ≤ j
      · have h8' : (8 : Int) ≤ (j : Int) := by omega
        go_wp2_with fail
        go_ret
        exact ⟨rfl, HUW.out⟩
      · have h8' : ¬ (8 : Int) ≤ (j : Int) := by omega
        by_cases hpos : 0 ≤ a
        · have HPB := Lib.hid (fun W (h' : SAt W p g X) => fprev_is a h' HOK.out)
          obtain ⟨pb, hpb⟩ : ∃ pb, X.find a (-1) = pb := ⟨_, rfl⟩
          have HNB := Lib.hid (fun W (h' : SAt W p g X) => fnext_is pb h' HOK.out)
          have hfin : X.find pb 1 = a := by rw [← hpb]; exact HFF.out hpos
          rw [hpb] at HPB
          rw [hfin] at HNB
          clear hpb hfin
          go_wp2_with fail
          refine (HN.out _ HSJ.out).mono ?_
          rintro e w2 ⟨rfl, hu2⟩
          go_wp2_with fail
          refine (HV.out _ (HSJ.out.up hu2)).mono ?_
          rintro e w3 ⟨rfl, hu3⟩
          have HU3 := Lib.hid (hu2.trans hu3)
          clear hu2 hu3
          go_wp2_with fail
          refine (HRN.out _ (HRJ.out.up HU3.out)).mono ?_
          rintro e w4 ⟨rfl, hu4⟩
          have HU4 := Lib.hid (HU3.out.trans hu4)
          clear hu4
          go_wp2_with fail
          refine (HRV.out _ (HRJ.out.up HU4.out)).mono ?_
          rintro e w5 ⟨rfl, hu5⟩
          have HU5 := Lib.hid (HU4.out.trans hu5)
          clear hu5
          go_wp2_with fail
          refine (HPB.out _ (HSJ.out.up HU5.out)).mono ?_
          rintro e w6 ⟨rfl, hu6⟩
          have HU6 := Lib.hid (HU5.out.trans hu6)
          clear hu6
          go_wp2_with fail
          refine (HNB.out _ (HSJ.out.up HU6.out)).mono ?_
          rintro e w7 ⟨rfl, hu7⟩
          have HU7 := Lib.hid (HU6.out.trans hu7)
          clear hu7
          go_wp2_with fail
          go_roundw
          case rel => exact ⟨j + 1, by omega, by go_num, HUJ.out.trans HU7.out⟩
          case measure => simp [intOf]; omega
        · go_wp2_with fail
          refine (HN.out _ HSJ.out).mono ?_
          rintro e w2 ⟨rfl, hu2⟩
          go_wp2_with fail
          refine (HV.out _ (HSJ.out.up hu2)).mono ?_
          rintro e w3 ⟨rfl, hu3⟩
          have HU3 := Lib.hid (hu2.trans hu3)
          clear hu2 hu3
          go_wp2_with fail
          refine (HRN.out _ (HRJ.out.up HU3.out)).mono ?_
          rintro e w4 ⟨rfl, hu4⟩
          have HU4 := Lib.hid (HU3.out.trans hu4)
          clear hu4
          go_wp2_with fail
          refine (HRV.out _ (HRJ.out.up HU4.out)).mono ?_
          rintro e w5 ⟨rfl, hu5⟩
          have HU5 := Lib.hid (HU4.out.trans hu5)
          clear hu5
          go_wp2_with fail
          go_roundw
          case rel => exact ⟨j + 1, by omega, by go_num, HUJ.out.trans HU5.out⟩
          case measure => simp [intOf]; omega
    · obtain rfl : j = n2 := by omega
      go_wp2_with fail
      go_ret
      exact ⟨rfl, HUW.out⟩
end Go.Proofs.Ytjokcfenncogkaa
