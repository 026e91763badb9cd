/-
  The document's Open; the walk of FieldStarts. No condition but where the acts lie.
-/
import Derived.Test.YtjokcfenncogkaaOf13
import Derived.Test.YtjokcfenncogkaaRf13c
import Derived.Test.YtjokcfenncogkaaAw13
namespace Go.Proofs.Ytjokcfenncogkaa
open Go.RowKit
set_option linter.unusedVariables false
set_option linter.unusedSimpArgs false

set_option maxHeartbeats 3200000 in
theorem ropen_is {q h : Nat} {X : Spc} {w : World} (n : Int) (hr : RAt w q h X) (ok : X.Ok) :
    Calls Try.prog 53 #[.pointer (some ⟨q, 0, none⟩), .int .i64 n] w fun e w' => e = .returned (.bool (X.open_ n)) ∧ Up w w' := by
  have fR := fldR0
  have HR := Lib.hid hr
  obtain ⟨k, hk⟩ : ∃ k, X.wrap n = k := ⟨_, rfl⟩
  have hw := ok.wrap n
  rw [hk] at hw
  have HW := Lib.hid (rwrap_at n hr ok hk)
  have hst : X.start (k : Int) = X.start n := by rw [← hw.1, start_emod]
  have hat := Spc.at_nat ok hw.2
  obtain ⟨d, hd⟩ : ∃ d, X.at_ (k : Int) = d := ⟨_, rfl⟩
  have hdn : X.at_ n = d := by rw [← hd, ← hw.1, Spc.at_emod]
  have H1 := Lib.hid (fun W (h' : RAt W q h X) => rstart_is (k : Int) h' ok)
  rw [hst] at H1
  rw [hd] at hat
  have hO : X.open_ n = (!d.at_ && (decide (X.start n < 0) || !fP (X.at_ (X.start n)).fa)) := by unfold Spc.open_ Spc.isA; rw [hdn]
  have x1 := (hr.cells.2.2 k d hat).h1
  have hkm := hw.2
  obtain ⟨cap, q1, q2, k4⟩ := hr.h4
  have zp := hr.lt
  have zg := hr.cells.2.1
  have hsm := ok.small
  have hln := ok.len
  have hcp : (cap : Int) ≤ 9223372036854775807 := by simp [maxLen] at q2; omega
  have HRF := Lib.hid (fun W (h' : RAt W q h X) j (hj : j < X.L.length) f hf => rfield_is h' ok hj (f := f) hf)
  have hsr := start_range ok n
  obtain ⟨a, ha⟩ : ∃ a, X.start n = a := ⟨_, rfl⟩
  rw [ha] at H1 hO hsr
  obtain ⟨m, hm⟩ : ∃ m, X.L.length = m := ⟨_, rfl⟩
  rw [hm] at q1 k4 hsm hkm hln HRF
  have hkm' : (k : Int) < (m : Int) := by omega
  have HO := Lib.hid hO
  clear hr ok q2 hk hw hat hd hdn hst hO ha hm
  obtain ⟨dch, da, dfa, dhi, dco, dse⟩ := d
  simp only at x1 HO
  go_enter Try.func53, Try.ntmps53
  go_wp2_with fail
  refine HW.out.mono ?_
  rintro e w1 ⟨rfl, hu1⟩
  have HU1 := Lib.hid hu1
  have k5 := ((hu1.at_ q zp).1 4).trans k4
  have x2 := ((hu1.at_ h zg).1 _).trans x1
  have z1 := hu1.size
  have zp1 : q < w1.heap.size := by omega
  have zg1 : h < w1.heap.size := by omega
  clear hu1 k4 x1
  go_wp2_with fail
  refine (H1.out _ (HR.out.up HU1.out)).mono ?_
  rintro e w2 ⟨rfl, hu2⟩
  have HU2 := Lib.hid (HU1.out.trans hu2)
  have k6 := ((hu2.at_ q zp1).1 4).trans k5
  have x3 := ((hu2.at_ h zg1).1 _).trans x2
  have z2 := hu2.size
  have zp2 : q < w2.heap.size := by omega
  have zg2 : h < w2.heap.size := by omega
  clear hu2 k5 x2
  cases da
  · rcases hsr with rfl | ⟨ha0, ha1⟩
    · have HV := Lib.hid (show X.open_ n = true by rw [HO.out]; simp)
      go_wp2_with fail
      go_ret
      exact ⟨by rw [HV.out]; rfl, HU2.out⟩
    · obtain ⟨ka, rfl⟩ : ∃ ka : Nat, a = (ka : Int) := ⟨a.toNat, by omega⟩
      obtain ⟨f, hf⟩ : ∃ f, (X.at_ (ka : Int)).fa = f := ⟨_, rfl⟩
      have HRF2 := Lib.hid (HRF.out w2 (HR.out.up HU2.out) ka (by omega) f hf)
      have hna : ¬ (ka : Int) < 0 := by omega
      have HV := Lib.hid (show X.open_ n = !fP f by rw [HO.out, hf]; simp [hna])
      generalize fP f = b0 at *
      clear hf
      go_wp2_with fail
      refine HRF2.out.mono ?_
      rintro e w3 ⟨rfl, hu3⟩
      have HU3 := Lib.hid (HU2.out.trans hu3)
      clear hu3
      cases b0
      all_goals
        go_wp2_with fail
        go_ret
        exact ⟨by rw [HV.out]; rfl, HU3.out⟩
  · have HV := Lib.hid (show X.open_ n = false by rw [HO.out]; simp)
    go_wp2_with fail
    go_ret
    exact ⟨by rw [HV.out]; rfl, HU2.out⟩
set_option maxRecDepth 100000 in
set_option maxHeartbeats 12800000 in
theorem law_starts (m : Int) (A : Option Addr) (n cap : Nat) (l : List ActR) (nn : Int) (w : World) (m0 : 0 ≤ m) (m1 : m ≤ 255) (hl : l.length = n) (hn : n ≤ cap) (hc : cap ≤ maxLen) (hok : ∀ x ∈ l, x.Ok w w.heap.size) (hr : Reads w w.heap.size 11 A n (l.flatMap ActR.enc))
    (n0 : -9223372036854775808 ≤ nn) (n1 : nn ≤ 9223372036854775807) :
    Calls Try.prog 7 #[.int .u8 m, .slice A n cap, .int .i64 nn] w fun e w' => e = .returned (.bool true) ∧ Up w w' := by
  have HWF := Lib.hid (show ∀ a ∈ plains l, a.Wf from fun a ha => by simp only [plains, List.mem_map] at ha; obtain ⟨x, hx, rfl⟩ := ha; exact (hok x hx).wf)
  have HOK := Lib.hid (layS_ok m0 HWF.out)
  have HLY := Lib.hid (fun W (hu : Up w W) => lay13_is (B := w.heap.size) (w := W) m0 m1 hu.size (hr.below hu) hl hn hc (fun x hx => (hok x hx).keep hu))
  clear hok hr hl HWF
  go_enter Try.func7, Try.ntmps7
  go_wp2_with fail
  refine (awake13 _).mono ?_
  rintro e w0 ⟨rfl, hu0⟩
  have HU0 := Lib.hid hu0
  clear hu0
  go_wp2_with fail
  refine (HLY.out _ HU0.out).mono ?_
  rintro e w1 ⟨p, g, q, h, rfl, hs, hr, -, hu1⟩
  obtain ⟨X, hX⟩ : ∃ X, layS m (plains l) = X := ⟨_, rfl⟩
  rw [hX] at hs hr HOK
  have HU1 := Lib.hid (HU0.out.trans hu1)
  have HS1 := Lib.hid hs
  have HR1 := Lib.hid hr
  clear hs hr hu1 hX HLY
  go_wp2_with fail
  refine (rstarts_is HR1.out HOK.out).mono ?_
  rintro e w2 ⟨G, rfl, hG, hints, hu2⟩
  have HS := Lib.hid (HS1.out.up hu2)
  have HR := Lib.hid (HR1.out.up hu2)
  have HU2 := Lib.hid (HU1.out.trans hu2)
  have HI := Lib.hid hints
  have hsm := HOK.out.small
  have HLN := Lib.hid HOK.out.len
  have HSA := Lib.hid (fun k (hk : k < X.L.length) => starts_at (X := X) hk)
  obtain ⟨m, hm⟩ : ∃ m, X.L.length = m := ⟨_, rfl⟩
  have HM := Lib.hid hm
  rw [hm] at hsm HSA HLN ⊢
  clear hints hu2 hm
  go_wp2_with fail
  go_loopw [26] (fun i wr => ∃ j : Nat, j ≤ m ∧ i = .int .i64 (j : Int) ∧ Up w2 wr) (fun i _ => m - (intOf i).toNat)
  case atStart => exact ⟨0, by omega, rfl, Up.refl _⟩
  case round =>
    obtain ⟨j, hj, rfl, huj⟩ := hrel
    have HUJ := Lib.hid huj
    by_cases hlt : j < m
    · have hcl := (HI.out.up huj).2.2 j _ (HSA.out j hlt)
      have zg := (HI.out.up huj).2.1
      have hjm : (j : Int) < (m : Int) := by omega
      have HOP := Lib.hid (fun W (h' : SAt W p g X) => fopen_is (j : Int) h' HOK.out)
      have HRO := Lib.hid (fun W (h' : RAt W q h X) => ropen_is (j : Int) h' HOK.out)
      have HST := Lib.hid (fun W (h' : SAt W p g X) => fstart_is (j : Int) h' HOK.out)
      obtain ⟨op, hop⟩ : ∃ op, X.open_ (j : Int) = op := ⟨_, rfl⟩
      rw [hop] at HOP HRO
      clear huj hop
      have hsr := start_range HOK.out (j : Int)
      have HN := Lib.hid (fun W (h' : SAt W p g X) => fof_none (j : Int) h' HOK.out)
      have HSO := Lib.hid (fun W (h' : SAt W p g X) (hp : 0 ≤ X.start (j : Int)) f hf => fof_some (j : Int) h' HOK.out hp (f := f) hf)
      obtain ⟨a, ha⟩ : ∃ a, X.start (j : Int) = a := ⟨_, rfl⟩
      rw [ha] at hcl HST hsr HN HSO
      clear ha
      rcases hsr with rfl | ⟨ha0, ha1⟩
      · have HOF := Lib.hid (fun W h' => HN.out W h' rfl)
        have HRF := Lib.hid (fun W (h' : RAt W q h X) => rfield_is h' HOK.out (k := 0) (by have := HOK.out.big; omega) rfl)
        by_cases h300 : 300 < j
        · have h300' : (300 : Int) < (j : Int) := by omega
          by_cases h301 : j + 300 < m
          · have h301' : (j : Int) + 300 < (m : Int) := by omega
            go_wp2_with fail
            refine (HOF.out _ (HS.out.up HUJ.out)).mono ?_
            rintro e w3 ⟨rfl, hu3⟩
            have HU3 := Lib.hid (HUJ.out.trans hu3)
            clear hu3
            have HUA := Lib.hid (HU3.out.alloc (.cells #[.bool false, .bool false, .int .i64 0, .bool false] 66))
            go_wp2_with fail
            refine wp_region_mix (NS := []) [] rfl (by kernel_rfl) (by kernel_rfl) (by simp) (by simp) ?_
            repeat (first
              | (refine mix_skip rfl rfl ?_; simp only [Act.put, List.setIfInBounds_toArray, List.set_cons_succ, List.set_cons_zero])
              | (refine mix_q rfl rfl rfl (by kernel_rfl) rfl rfl rfl ?_
                 apply Exists.intro
                 refine ⟨fun Wm => ?_, ?_⟩
                 · simp only [fin]
                   skip
                   intro K hK
                   go_wp2_with ((first | (go_at_call 50; (with_reducible refine (HST.out _ (HS.out.up (HUA.out.trans (up_upOf _ _)))).mono ?_); rintro e w' ⟨rfl, hux⟩) | (go_at_call 51; (with_reducible refine (HRF.out _ (HR.out.up (HUA.out.trans (up_upOf _ _)))).mono ?_); rintro e w' ⟨rfl, hux⟩)))
                   refine hK _ _ ?_ ?_ ?_
                   · (repeat (first | with_reducible exact Up.refl _ | with_reducible refine Up.alloc ?_ _ | with_reducible refine Up.drew ?_ | with_reducible refine Up.drewN ?_ _ | with_reducible refine Up.setCell ?_ (by (try simp) <;> omega) _ | with_reducible assumption | with_reducible refine Up.trans ?_ (by assumption)))
                   · rfl
                   · exact tmps_at rfl
                 simp only [Act.put, List.setIfInBounds_toArray, List.set_cons_succ, List.set_cons_zero]))
            refine mix_nil ?_
            intro w4 hb_w4
            simp only [fin]
            have hu_w4 : Up w3 w4 := by (repeat (first | with_reducible exact Up.refl _ | with_reducible refine Up.alloc ?_ _ | with_reducible refine Up.drew ?_ | with_reducible refine Up.drewN ?_ _ | with_reducible refine Up.setCell ?_ (by (try simp) <;> omega) _ | with_reducible assumption | with_reducible refine Up.trans ?_ (by assumption)))
            have hz_w4 := Up.size hb_w4
            try simp at hz_w4
            go_wp2_with fail
            have HU4 := Lib.hid (HU3.out.trans hu_w4)
            go_roundw
            case rel => exact ⟨j + 1, by omega, by go_num, HU4.out⟩
            case measure => simp [intOf]; omega
          · have h301' : ¬ (j : Int) + 300 < (m : Int) := by omega
            go_wp2_with fail
            refine (HOF.out _ (HS.out.up HUJ.out)).mono ?_
            rintro e w3 ⟨rfl, hu3⟩
            have HU3 := Lib.hid (HUJ.out.trans hu3)
            clear hu3
            have HUA := Lib.hid (HU3.out.alloc (.cells #[.bool false, .bool false, .int .i64 0, .bool false] 66))
            go_wp2_with fail
            refine wp_region_mix (NS := []) [] rfl (by kernel_rfl) (by kernel_rfl) (by simp) (by simp) ?_
            repeat (first
              | (refine mix_skip rfl rfl ?_; simp only [Act.put, List.setIfInBounds_toArray, List.set_cons_succ, List.set_cons_zero])
              | (refine mix_q rfl rfl rfl (by kernel_rfl) rfl rfl rfl ?_
                 apply Exists.intro
                 refine ⟨fun Wm => ?_, ?_⟩
                 · simp only [fin]
                   skip
                   intro K hK
                   go_wp2_with ((first | (go_at_call 50; (with_reducible refine (HST.out _ (HS.out.up (HUA.out.trans (up_upOf _ _)))).mono ?_); rintro e w' ⟨rfl, hux⟩) | (go_at_call 51; (with_reducible refine (HRF.out _ (HR.out.up (HUA.out.trans (up_upOf _ _)))).mono ?_); rintro e w' ⟨rfl, hux⟩)))
                   refine hK _ _ ?_ ?_ ?_
                   · (repeat (first | with_reducible exact Up.refl _ | with_reducible refine Up.alloc ?_ _ | with_reducible refine Up.drew ?_ | with_reducible refine Up.drewN ?_ _ | with_reducible refine Up.setCell ?_ (by (try simp) <;> omega) _ | with_reducible assumption | with_reducible refine Up.trans ?_ (by assumption)))
                   · rfl
                   · exact tmps_at rfl
                 simp only [Act.put, List.setIfInBounds_toArray, List.set_cons_succ, List.set_cons_zero]))
            refine mix_nil ?_
            intro w4 hb_w4
            simp only [fin]
            have hu_w4 : Up w3 w4 := by (repeat (first | with_reducible exact Up.refl _ | with_reducible refine Up.alloc ?_ _ | with_reducible refine Up.drew ?_ | with_reducible refine Up.drewN ?_ _ | with_reducible refine Up.setCell ?_ (by (try simp) <;> omega) _ | with_reducible assumption | with_reducible refine Up.trans ?_ (by assumption)))
            have hz_w4 := Up.size hb_w4
            try simp at hz_w4
            go_wp2_with fail
            have HU4 := Lib.hid (HU3.out.trans hu_w4)
            refine (HOP.out _ (HS.out.up HU4.out)).mono ?_
            rintro e w5 ⟨rfl, hu5⟩
            have HU5 := Lib.hid (HU4.out.trans hu5)
            clear hu5
            go_wp2_with fail
            refine (HRO.out _ (HR.out.up HU5.out)).mono ?_
            rintro e w6 ⟨rfl, hu6⟩
            have HU6 := Lib.hid (HU5.out.trans hu6)
            clear hu6
            cases op
            all_goals
              go_wp2_with fail
              go_roundw
              case rel => exact ⟨j + 1, by omega, by go_num, HU6.out⟩
              case measure => simp [intOf]; omega
        · have h300' : ¬ (300 : Int) < (j : Int) := by omega
          go_wp2_with fail
          refine (HOF.out _ (HS.out.up HUJ.out)).mono ?_
          rintro e w3 ⟨rfl, hu3⟩
          have HU3 := Lib.hid (HUJ.out.trans hu3)
          clear hu3
          have HUA := Lib.hid (HU3.out.alloc (.cells #[.bool false, .bool false, .int .i64 0, .bool false] 66))
          go_wp2_with fail
          refine wp_region_mix (NS := []) [] rfl (by kernel_rfl) (by kernel_rfl) (by simp) (by simp) ?_
          repeat (first
            | (refine mix_skip rfl rfl ?_; simp only [Act.put, List.setIfInBounds_toArray, List.set_cons_succ, List.set_cons_zero])
            | (refine mix_q rfl rfl rfl (by kernel_rfl) rfl rfl rfl ?_
               apply Exists.intro
               refine ⟨fun Wm => ?_, ?_⟩
               · simp only [fin]
                 skip
                 intro K hK
                 go_wp2_with ((first | (go_at_call 50; (with_reducible refine (HST.out _ (HS.out.up (HUA.out.trans (up_upOf _ _)))).mono ?_); rintro e w' ⟨rfl, hux⟩) | (go_at_call 51; (with_reducible refine (HRF.out _ (HR.out.up (HUA.out.trans (up_upOf _ _)))).mono ?_); rintro e w' ⟨rfl, hux⟩)))
                 refine hK _ _ ?_ ?_ ?_
                 · (repeat (first | with_reducible exact Up.refl _ | with_reducible refine Up.alloc ?_ _ | with_reducible refine Up.drew ?_ | with_reducible refine Up.drewN ?_ _ | with_reducible refine Up.setCell ?_ (by (try simp) <;> omega) _ | with_reducible assumption | with_reducible refine Up.trans ?_ (by assumption)))
                 · rfl
                 · exact tmps_at rfl
               simp only [Act.put, List.setIfInBounds_toArray, List.set_cons_succ, List.set_cons_zero]))
          refine mix_nil ?_
          intro w4 hb_w4
          simp only [fin]
          have hu_w4 : Up w3 w4 := by (repeat (first | with_reducible exact Up.refl _ | with_reducible refine Up.alloc ?_ _ | with_reducible refine Up.drew ?_ | with_reducible refine Up.drewN ?_ _ | with_reducible refine Up.setCell ?_ (by (try simp) <;> omega) _ | with_reducible assumption | with_reducible refine Up.trans ?_ (by assumption)))
          have hz_w4 := Up.size hb_w4
          try simp at hz_w4
          go_wp2_with fail
          have HU4 := Lib.hid (HU3.out.trans hu_w4)
          refine (HOP.out _ (HS.out.up HU4.out)).mono ?_
          rintro e w5 ⟨rfl, hu5⟩
          have HU5 := Lib.hid (HU4.out.trans hu5)
          clear hu5
          go_wp2_with fail
          refine (HRO.out _ (HR.out.up HU5.out)).mono ?_
          rintro e w6 ⟨rfl, hu6⟩
          have HU6 := Lib.hid (HU5.out.trans hu6)
          clear hu6
          cases op
          all_goals
            go_wp2_with fail
            go_roundw
            case rel => exact ⟨j + 1, by omega, by go_num, HU6.out⟩
            case measure => simp [intOf]; omega
      · obtain ⟨ka, rfl⟩ : ∃ ka : Nat, a = (ka : Int) := ⟨a.toNat, by omega⟩
        obtain ⟨f, hf⟩ : ∃ f, (X.at_ (ka : Int)).fa = f := ⟨_, rfl⟩
        have HOF := Lib.hid (fun W h' => HSO.out W h' ha0 f hf)
        have HRF := Lib.hid (fun W (h' : RAt W q h X) => rfield_is h' HOK.out (k := ka) (by have := HLN.out; rw [HM.out]; omega) hf)
        have ea := eqF f
        clear hf
        by_cases h300 : 300 < j
        · have h300' : (300 : Int) < (j : Int) := by omega
          by_cases h301 : j + 300 < m
          · have h301' : (j : Int) + 300 < (m : Int) := by omega
            go_wp2_with fail
            refine (HOF.out _ (HS.out.up HUJ.out)).mono ?_
            rintro e w3 ⟨rfl, hu3⟩
            have HU3 := Lib.hid (HUJ.out.trans hu3)
            clear hu3
            have HUA := Lib.hid (HU3.out.alloc (.cells #[.bool (fP f), .bool (fN f), .int .i64 (fD f), .bool (fM f)] 66))
            go_wp2_with fail
            refine wp_region_mix (NS := []) [] rfl (by kernel_rfl) (by kernel_rfl) (by simp) (by simp) ?_
            repeat (first
              | (refine mix_skip rfl rfl ?_; simp only [Act.put, List.setIfInBounds_toArray, List.set_cons_succ, List.set_cons_zero])
              | (refine mix_q rfl rfl rfl (by kernel_rfl) rfl rfl rfl ?_
                 apply Exists.intro
                 refine ⟨fun Wm => ?_, ?_⟩
                 · simp only [fin]
                   skip
                   intro K hK
                   go_wp2_with ((first | (go_at_call 50; (with_reducible refine (HST.out _ (HS.out.up (HUA.out.trans (up_upOf _ _)))).mono ?_); rintro e w' ⟨rfl, hux⟩) | (go_at_call 51; (with_reducible refine (HRF.out _ (HR.out.up (HUA.out.trans (up_upOf _ _)))).mono ?_); rintro e w' ⟨rfl, hux⟩)))
                   refine hK _ _ ?_ ?_ ?_
                   · (repeat (first | with_reducible exact Up.refl _ | with_reducible refine Up.alloc ?_ _ | with_reducible refine Up.drew ?_ | with_reducible refine Up.drewN ?_ _ | with_reducible refine Up.setCell ?_ (by (try simp) <;> omega) _ | with_reducible assumption | with_reducible refine Up.trans ?_ (by assumption)))
                   · rfl
                   · exact tmps_at rfl
                 simp only [Act.put, List.setIfInBounds_toArray, List.set_cons_succ, List.set_cons_zero]))
            refine mix_nil ?_
            intro w4 hb_w4
            simp only [fin]
            have hu_w4 : Up w3 w4 := by (repeat (first | with_reducible exact Up.refl _ | with_reducible refine Up.alloc ?_ _ | with_reducible refine Up.drew ?_ | with_reducible refine Up.drewN ?_ _ | with_reducible refine Up.setCell ?_ (by (try simp) <;> omega) _ | with_reducible assumption | with_reducible refine Up.trans ?_ (by assumption)))
            have hz_w4 := Up.size hb_w4
            try simp at hz_w4
            go_wp2_with fail
            have HU4 := Lib.hid (HU3.out.trans hu_w4)
            go_roundw
            case rel => exact ⟨j + 1, by omega, by go_num, HU4.out⟩
            case measure => simp [intOf]; omega
          · have h301' : ¬ (j : Int) + 300 < (m : Int) := by omega
            go_wp2_with fail
            refine (HOF.out _ (HS.out.up HUJ.out)).mono ?_
            rintro e w3 ⟨rfl, hu3⟩
            have HU3 := Lib.hid (HUJ.out.trans hu3)
            clear hu3
            have HUA := Lib.hid (HU3.out.alloc (.cells #[.bool (fP f), .bool (fN f), .int .i64 (fD f), .bool (fM f)] 66))
            go_wp2_with fail
            refine wp_region_mix (NS := []) [] rfl (by kernel_rfl) (by kernel_rfl) (by simp) (by simp) ?_
            repeat (first
              | (refine mix_skip rfl rfl ?_; simp only [Act.put, List.setIfInBounds_toArray, List.set_cons_succ, List.set_cons_zero])
              | (refine mix_q rfl rfl rfl (by kernel_rfl) rfl rfl rfl ?_
                 apply Exists.intro
                 refine ⟨fun Wm => ?_, ?_⟩
                 · simp only [fin]
                   skip
                   intro K hK
                   go_wp2_with ((first | (go_at_call 50; (with_reducible refine (HST.out _ (HS.out.up (HUA.out.trans (up_upOf _ _)))).mono ?_); rintro e w' ⟨rfl, hux⟩) | (go_at_call 51; (with_reducible refine (HRF.out _ (HR.out.up (HUA.out.trans (up_upOf _ _)))).mono ?_); rintro e w' ⟨rfl, hux⟩)))
                   refine hK _ _ ?_ ?_ ?_
                   · (repeat (first | with_reducible exact Up.refl _ | with_reducible refine Up.alloc ?_ _ | with_reducible refine Up.drew ?_ | with_reducible refine Up.drewN ?_ _ | with_reducible refine Up.setCell ?_ (by (try simp) <;> omega) _ | with_reducible assumption | with_reducible refine Up.trans ?_ (by assumption)))
                   · rfl
                   · exact tmps_at rfl
                 simp only [Act.put, List.setIfInBounds_toArray, List.set_cons_succ, List.set_cons_zero]))
            refine mix_nil ?_
            intro w4 hb_w4
            simp only [fin]
            have hu_w4 : Up w3 w4 := by (repeat (first | with_reducible exact Up.refl _ | with_reducible refine Up.alloc ?_ _ | with_reducible refine Up.drew ?_ | with_reducible refine Up.drewN ?_ _ | with_reducible refine Up.setCell ?_ (by (try simp) <;> omega) _ | with_reducible assumption | with_reducible refine Up.trans ?_ (by assumption)))
            have hz_w4 := Up.size hb_w4
            try simp at hz_w4
            go_wp2_with fail
            have HU4 := Lib.hid (HU3.out.trans hu_w4)
            refine (HOP.out _ (HS.out.up HU4.out)).mono ?_
            rintro e w5 ⟨rfl, hu5⟩
            have HU5 := Lib.hid (HU4.out.trans hu5)
            clear hu5
            go_wp2_with fail
            refine (HRO.out _ (HR.out.up HU5.out)).mono ?_
            rintro e w6 ⟨rfl, hu6⟩
            have HU6 := Lib.hid (HU5.out.trans hu6)
            clear hu6
            cases op
            all_goals
              go_wp2_with fail
              go_roundw
              case rel => exact ⟨j + 1, by omega, by go_num, HU6.out⟩
              case measure => simp [intOf]; omega
        · have h300' : ¬ (300 : Int) < (j : Int) := by omega
          go_wp2_with fail
          refine (HOF.out _ (HS.out.up HUJ.out)).mono ?_
          rintro e w3 ⟨rfl, hu3⟩
          have HU3 := Lib.hid (HUJ.out.trans hu3)
          clear hu3
          have HUA := Lib.hid (HU3.out.alloc (.cells #[.bool (fP f), .bool (fN f), .int .i64 (fD f), .bool (fM f)] 66))
          go_wp2_with fail
          refine wp_region_mix (NS := []) [] rfl (by kernel_rfl) (by kernel_rfl) (by simp) (by simp) ?_
          repeat (first
            | (refine mix_skip rfl rfl ?_; simp only [Act.put, List.setIfInBounds_toArray, List.set_cons_succ, List.set_cons_zero])
            | (refine mix_q rfl rfl rfl (by kernel_rfl) rfl rfl rfl ?_
               apply Exists.intro
               refine ⟨fun Wm => ?_, ?_⟩
               · simp only [fin]
                 skip
                 intro K hK
                 go_wp2_with ((first | (go_at_call 50; (with_reducible refine (HST.out _ (HS.out.up (HUA.out.trans (up_upOf _ _)))).mono ?_); rintro e w' ⟨rfl, hux⟩) | (go_at_call 51; (with_reducible refine (HRF.out _ (HR.out.up (HUA.out.trans (up_upOf _ _)))).mono ?_); rintro e w' ⟨rfl, hux⟩)))
                 refine hK _ _ ?_ ?_ ?_
                 · (repeat (first | with_reducible exact Up.refl _ | with_reducible refine Up.alloc ?_ _ | with_reducible refine Up.drew ?_ | with_reducible refine Up.drewN ?_ _ | with_reducible refine Up.setCell ?_ (by (try simp) <;> omega) _ | with_reducible assumption | with_reducible refine Up.trans ?_ (by assumption)))
                 · rfl
                 · exact tmps_at rfl
               simp only [Act.put, List.setIfInBounds_toArray, List.set_cons_succ, List.set_cons_zero]))
          refine mix_nil ?_
          intro w4 hb_w4
          simp only [fin]
          have hu_w4 : Up w3 w4 := by (repeat (first | with_reducible exact Up.refl _ | with_reducible refine Up.alloc ?_ _ | with_reducible refine Up.drew ?_ | with_reducible refine Up.drewN ?_ _ | with_reducible refine Up.setCell ?_ (by (try simp) <;> omega) _ | with_reducible assumption | with_reducible refine Up.trans ?_ (by assumption)))
          have hz_w4 := Up.size hb_w4
          try simp at hz_w4
          go_wp2_with fail
          have HU4 := Lib.hid (HU3.out.trans hu_w4)
          refine (HOP.out _ (HS.out.up HU4.out)).mono ?_
          rintro e w5 ⟨rfl, hu5⟩
          have HU5 := Lib.hid (HU4.out.trans hu5)
          clear hu5
          go_wp2_with fail
          refine (HRO.out _ (HR.out.up HU5.out)).mono ?_
          rintro e w6 ⟨rfl, hu6⟩
          have HU6 := Lib.hid (HU5.out.trans hu6)
          clear hu6
          cases op
          all_goals
            go_wp2_with fail
            go_roundw
            case rel => exact ⟨j + 1, by omega, by go_num, HU6.out⟩
            case measure => simp [intOf]; omega
    · obtain rfl : j = m := by omega
      have HST := Lib.hid (fun W (h' : SAt W p g X) => fstart_is nn h' HOK.out)
      have HRS := Lib.hid (fun W (h' : RAt W q h X) => rstart_is nn h' HOK.out)
      have HOP := Lib.hid (fun W (h' : SAt W p g X) => fopen_is nn h' HOK.out)
      have HRO := Lib.hid (fun W (h' : RAt W q h X) => ropen_is nn h' HOK.out)
      generalize X.start nn = st at *
      generalize X.open_ nn = op at *
      clear huj
      go_wp2_with fail
      refine (HST.out _ (HS.out.up HUJ.out)).mono ?_
      rintro e w3 ⟨rfl, hu3⟩
      have HU3 := Lib.hid (HUJ.out.trans hu3)
      clear hu3
      go_wp2_with fail
      refine (HRS.out _ (HR.out.up HU3.out)).mono ?_
      rintro e w4 ⟨rfl, hu4⟩
      have HU4 := Lib.hid (HU3.out.trans hu4)
      clear hu4
      go_wp2_with fail
      refine (HOP.out _ (HS.out.up HU4.out)).mono ?_
      rintro e w5 ⟨rfl, hu5⟩
      have HU5 := Lib.hid (HU4.out.trans hu5)
      clear hu5
      go_wp2_with fail
      refine (HRO.out _ (HR.out.up HU5.out)).mono ?_
      rintro e w6 ⟨rfl, hu6⟩
      have HU6 := Lib.hid (HU5.out.trans hu6)
      clear hu6
      cases op
      all_goals
        go_wp2_with fail
        go_ret
        exact ⟨rfl, HU2.out.trans HU6.out⟩
end Go.Proofs.Ytjokcfenncogkaa
