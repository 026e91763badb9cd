/-
  The document's Open. No condition.
-/
import Derived.Test.YtjokcfenncogkaaOf13
import Derived.Test.YtjokcfenncogkaaRf13c
namespace Go.Proofs.Ytjokcfenncogkaa
open Go.RowKit
set_option linter.unusedVariables false
set_option linter.unusedSimpArgs false

set_option maxHeartbeats 3200000 in
theorem ropen_is {q h : Nat} {X : Spc} {w : World} (n : Int) (hr : RAt w q h X) (ok : X.Ok) :
    Calls Try.prog 53 #[.pointer (some ⟨q, 0, none⟩), .int .i64 n] w fun e w' => e = .returned (.bool (X.open_ n)) ∧ Up w w' := by
  have fR := fldR0
  have HR := Lib.hid hr
  obtain ⟨k, hk⟩ : ∃ k, X.wrap n = k := ⟨_, rfl⟩
  have hw := ok.wrap n
  rw [hk] at hw
  have HW := Lib.hid (rwrap_at n hr ok hk)
  have hst : X.start (k : Int) = X.start n := by rw [← hw.1, start_emod]
  have hat := Spc.at_nat ok hw.2
  obtain ⟨d, hd⟩ : ∃ d, X.at_ (k : Int) = d := ⟨_, rfl⟩
  have hdn : X.at_ n = d := by rw [← hd, ← hw.1, Spc.at_emod]
  have H1 := Lib.hid (fun W (h' : RAt W q h X) => rstart_is (k : Int) h' ok)
  rw [hst] at H1
  rw [hd] at hat
  have hO : X.open_ n = (!d.at_ && (decide (X.start n < 0) || !fP (X.at_ (X.start n)).fa)) := by unfold Spc.open_ Spc.isA; rw [hdn]
  have x1 := (hr.cells.2.2 k d hat).h1
  have hkm := hw.2
  obtain ⟨cap, q1, q2, k4⟩ := hr.h4
  have zp := hr.lt
  have zg := hr.cells.2.1
  have hsm := ok.small
  have hln := ok.len
  have hcp : (cap : Int) ≤ 9223372036854775807 := by simp [maxLen] at q2; omega
  have HRF := Lib.hid (fun W (h' : RAt W q h X) j (hj : j < X.L.length) f hf => rfield_is h' ok hj (f := f) hf)
  have hsr := start_range ok n
  obtain ⟨a, ha⟩ : ∃ a, X.start n = a := ⟨_, rfl⟩
  rw [ha] at H1 hO hsr
  obtain ⟨m, hm⟩ : ∃ m, X.L.length = m := ⟨_, rfl⟩
  rw [hm] at q1 k4 hsm hkm hln HRF
  have hkm' : (k : Int) < (m : Int) := by omega
  have HO := Lib.hid hO
  clear hr ok q2 hk hw hat hd hdn hst hO ha hm
  obtain ⟨dch, da, dfa, dhi, dco, dse⟩ := d
  simp only at x1 HO
  go_enter Try.func53, Try.ntmps53
  go_wp2_with fail
  refine HW.out.mono ?_
  rintro e w1 ⟨rfl, hu1⟩
  have HU1 := Lib.hid hu1
  have k5 := ((hu1.at_ q zp).1 4).trans k4
  have x2 := ((hu1.at_ h zg).1 _).trans x1
  have z1 := hu1.size
  have zp1 : q < w1.heap.size := by omega
  have zg1 : h < w1.heap.size := by omega
  clear hu1 k4 x1
  go_wp2_with fail
  refine (H1.out _ (HR.out.up HU1.out)).mono ?_
  rintro e w2 ⟨rfl, hu2⟩
  have HU2 := Lib.hid (HU1.out.trans hu2)
  have k6 := ((hu2.at_ q zp1).1 4).trans k5
  have x3 := ((hu2.at_ h zg1).1 _).trans x2
  have z2 := hu2.size
  have zp2 : q < w2.heap.size := by omega
  have zg2 : h < w2.heap.size := by omega
  clear hu2 k5 x2
  cases da
  · rcases hsr with rfl | ⟨ha0, ha1⟩
    · have HV := Lib.hid (show X.open_ n = true by rw [HO.out]; simp)
      go_wp2_with fail
      go_ret
      exact ⟨by rw [HV.out]; rfl, HU2.out⟩
    · obtain ⟨ka, rfl⟩ : ∃ ka : Nat, a = (ka : Int) := ⟨a.toNat, by omega⟩
      obtain ⟨f, hf⟩ : ∃ f, (X.at_ (ka : Int)).fa = f := ⟨_, rfl⟩
      have HRF2 := Lib.hid (HRF.out w2 (HR.out.up HU2.out) ka (by omega) f hf)
      have hna : ¬ (ka : Int) < 0 := by omega
      have HV := Lib.hid (show X.open_ n = !fP f by rw [HO.out, hf]; simp [hna])
      generalize fP f = b0 at *
      clear hf
      go_wp2_with fail
      refine HRF2.out.mono ?_
      rintro e w3 ⟨rfl, hu3⟩
      have HU3 := Lib.hid (HU2.out.trans hu3)
      clear hu3
      cases b0
      all_goals
        go_wp2_with fail
        go_ret
        exact ⟨by rw [HV.out]; rfl, HU3.out⟩
  · have HV := Lib.hid (show X.open_ n = false by rw [HO.out]; simp)
    go_wp2_with fail
    go_ret
    exact ⟨by rw [HV.out]; rfl, HU2.out⟩
end Go.Proofs.Ytjokcfenncogkaa
