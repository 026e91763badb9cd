/-
  The reference's Make: the field of an act, or that there is none. No condition.
-/
import Derived.Test.YtfambgigdhkiaaaDoorMakeOf
import Derived.Test.YtfambgigdhkiaaaDoorROf4
import Derived.BigQuiet
namespace Go.Proofs.YtfambgigdhkiaaaDoor
open Go.RowKit
set_option linter.unusedVariables false
set_option linter.unusedSimpArgs false

theorem rsame_is {a b : PAct} {A1 A2 A3 A4 : Option Addr} {B1 B2 B3 B4 c1 c2 c3 c4 : Nat} {w : World} (h1 : Sl B1 w A1 a.codes.length c1 a.codes) (h2 : Sl B2 w A2 a.rec_.length c2 a.rec_) (h3 : Sl B3 w A3 b.codes.length c3 b.codes) (h4 : Sl B4 w A4 b.rec_.length c4 b.rec_) :
    Calls Tryd.prog 22 #[actV a A1 c1 A2 c2, actV b A3 c3 A4 c4] w fun e w' => e = .returned (.bool (sameB a b)) ∧ Up w w' := rsame_any h1 h2 h3 h4
/-- what Make hands back once the field is made -/
def mkTail (i : Int) (dl : List Int) (a : PAct) : Int × List Int × Int := if (actOf i dl).2 = 0 ∧ sameB (actOf i dl).1 (plainOf a) = true then (i, dl, 0) else (0, [], 4)

set_option maxRecDepth 100000 in
set_option maxHeartbeats 6400000 in
theorem make1 {a : PAct} {A1 A2 : Option Addr} {B1 B2 c1 c2 : Nat} {w : World} (h1 : Sl B1 w A1 a.codes.length c1 a.codes) (h2 : Sl B2 w A2 a.rec_.length c2 a.rec_) (hk : a.kind = 1) :
    Calls Tryd.prog 27 #[actV a A1 c1 A2 c2] w (FieldRet w (mkTail 1 [255, 2] a)) := by
  have H1 := Lib.hid h1
  have H2 := Lib.hid h2
  have HPL := Lib.hid (fun w' (hu : Up w w') => plain_is (h1.up hu) (h2.up hu))
  clear h1 h2
  obtain ⟨R, hR⟩ : ∃ R, mkTail 1 [255, 2] a = R := ⟨_, rfl⟩
  rw [hR]
  have hR' := Lib.hid (show R = _ from hR.symm.trans (by unfold mkTail; rfl))
  clear hR
  obtain ⟨r, hr⟩ : ∃ r, actOf 1 [255, 2] = r := ⟨_, rfl⟩
  rw [hr] at hR'
  have HRR := Lib.hid hr
  clear hr
  have hk1 : (1 : Int) ≤ a.kind := by omega
  have hk9 : a.kind ≤ 9 := by omega
  have e_1 : (a.kind == 1) = true := by rw [hk]; rfl
  clear hk
  by_cases h2 : r.2 = 0
  · have e2 : (r.2 != 0) = false := by simpa using h2
    cases hs : sameB r.1 (plainOf a)
    · have hRR : R = (0, [], 4) := hR'.out.trans (by rw [hs]; simp)
      rw [hRR]
      have HSB := Lib.hid hs
      clear h2 hs hRR
      unfold actV
      go_enter Tryd.func27, Tryd.ntmps27
      go_wp2_with fail
      refine (rof_is (id := 1) (l := [255, 2]) (B := 0) ?_).mono ?_
      · exact Sl.low (sl_lit _ [255, 2] (by intro x hx; simp only [List.mem_cons, List.mem_nil_iff, or_false] at hx; rcases hx with rfl | rfl <;> omega) (by simp) 2 _ (by simp) _ rfl rfl) (Nat.zero_le _)
      rw [HRR.out]
      rintro e w2 ⟨E1, d1, E2, d2, rfl, s4, s5, u2⟩
      obtain ⟨ka, fa⟩ := u2.at_ w.heap.size (by (try simp) <;> omega)
      obtain ⟨kb, fb⟩ := u2.at_ (w.heap.size + 1) (by (try simp) <;> omega)
      obtain ⟨kc, fc⟩ := u2.at_ (w.heap.size + 1 + 1) (by (try simp) <;> omega)
      have uw2 : Up w w2 := by (repeat (first | with_reducible exact Up.refl _ | with_reducible refine Up.alloc ?_ _ | with_reducible refine Up.drew ?_ | with_reducible refine Up.drewN ?_ _ | with_reducible refine Up.setCell ?_ (by (try simp) <;> omega) _ | with_reducible assumption | with_reducible refine Up.trans ?_ (by assumption)))
      have hz2 := u2.size
      (try simp at hz2)
      have y0 : w.heap.size < w2.heap.size := by omega
      have y1 : w.heap.size + 1 < w2.heap.size := by omega
      have y2 : w.heap.size + 1 + 1 < w2.heap.size := by omega
      have S4 := Lib.hid s4
      have S5 := Lib.hid s5
      have UW2 := Lib.hid uw2
      have U2 := Lib.hid u2
      clear s4 s5 u2 uw2
      unfold actV
      go_wp2
      go_region_with (first | (go_at_call 30; refine (HPL.out _ (Up.drew (UW2.out.alloc _))).mono ?_; rintro e w3 ⟨⟨F1, f1, F2, f2, rfl, s6, s7⟩, u3⟩; obtain ⟨la, ga⟩ := u3.at_ w.heap.size (by (try simp) <;> omega); obtain ⟨lb, gb⟩ := u3.at_ (w.heap.size + 1) (by (try simp) <;> omega); obtain ⟨lc, gc⟩ := u3.at_ (w.heap.size + 1 + 1) (by (try simp) <;> omega); obtain ⟨ld, gd⟩ := u3.at_ w2.heap.size (by simp); have hz3 := u3.size; (try simp at hz3); have x0 : w.heap.size < w3.heap.size := (by omega); have x1 : w.heap.size + 1 < w3.heap.size := (by omega); have x2 : w.heap.size + 1 + 1 < w3.heap.size := (by omega); have x3 : w2.heap.size < w3.heap.size := (by omega); have S6 := Lib.hid s6; have S7 := Lib.hid s7; have U23 := Lib.hid (show Up w2 w3 from (((Up.refl w2).alloc _).drew).trans u3); clear s6 s7 u3; unfold actV) | (go_at_call 22; refine (rsame_is (a := r.1) (b := plainOf a) (S4.out.up U23.out) (S5.out.up U23.out) S6.out S7.out).mono ?_; rintro e w4 ⟨rfl, u4⟩; rw [HSB.out]; obtain ⟨ma, oa⟩ := u4.at_ w.heap.size (by (try simp) <;> omega); obtain ⟨mb, ob⟩ := u4.at_ (w.heap.size + 1) (by (try simp) <;> omega); obtain ⟨mc, oc⟩ := u4.at_ (w.heap.size + 1 + 1) (by (try simp) <;> omega); have hz4 := u4.size; (try simp at hz4); have z0 : w.heap.size < w4.heap.size := (by omega); have z1 : w.heap.size + 1 < w4.heap.size := (by omega); have z2 : w.heap.size + 1 + 1 < w4.heap.size := (by omega); have U34 := Lib.hid u4; clear u4))
      all_goals
        go_wp2
        exact bodyPost_ret (v := .tuple #[.agg #[.int .u8 0, .slice none 0 0], .int .i64 4]) (by simp [results, Tryd.results27, go_sem, ka, kb, kc, y0, y1, y2, la, lb, lc, x1, x2, ma, mb, mc, z1, z2]) rfl ⟨none, 0, rfl, Sl.none_, by have hU := UW2.out.trans (U23.out.trans U34.out); (repeat (first | with_reducible exact Up.refl _ | with_reducible refine Up.alloc ?_ _ | with_reducible refine Up.drew ?_ | with_reducible refine Up.drewN ?_ _ | with_reducible refine Up.setCell ?_ (by (try simp) <;> omega) _ | with_reducible assumption | with_reducible refine Up.trans ?_ (by assumption)))⟩
    · have hRR : R = (1, [255, 2], 0) := hR'.out.trans (by rw [hs]; simp [h2])
      rw [hRR]
      have HSB := Lib.hid hs
      clear h2 hs hRR
      unfold actV
      go_enter Tryd.func27, Tryd.ntmps27
      go_wp2_with fail
      refine (rof_is (id := 1) (l := [255, 2]) (B := 0) ?_).mono ?_
      · exact Sl.low (sl_lit _ [255, 2] (by intro x hx; simp only [List.mem_cons, List.mem_nil_iff, or_false] at hx; rcases hx with rfl | rfl <;> omega) (by simp) 2 _ (by simp) _ rfl rfl) (Nat.zero_le _)
      rw [HRR.out]
      rintro e w2 ⟨E1, d1, E2, d2, rfl, s4, s5, u2⟩
      obtain ⟨ka, fa⟩ := u2.at_ w.heap.size (by (try simp) <;> omega)
      obtain ⟨kb, fb⟩ := u2.at_ (w.heap.size + 1) (by (try simp) <;> omega)
      obtain ⟨kc, fc⟩ := u2.at_ (w.heap.size + 1 + 1) (by (try simp) <;> omega)
      have uw2 : Up w w2 := by (repeat (first | with_reducible exact Up.refl _ | with_reducible refine Up.alloc ?_ _ | with_reducible refine Up.drew ?_ | with_reducible refine Up.drewN ?_ _ | with_reducible refine Up.setCell ?_ (by (try simp) <;> omega) _ | with_reducible assumption | with_reducible refine Up.trans ?_ (by assumption)))
      have hz2 := u2.size
      (try simp at hz2)
      have y0 : w.heap.size < w2.heap.size := by omega
      have y1 : w.heap.size + 1 < w2.heap.size := by omega
      have y2 : w.heap.size + 1 + 1 < w2.heap.size := by omega
      have S4 := Lib.hid s4
      have S5 := Lib.hid s5
      have UW2 := Lib.hid uw2
      have U2 := Lib.hid u2
      clear s4 s5 u2 uw2
      unfold actV
      go_wp2
      go_region_with (first | (go_at_call 30; refine (HPL.out _ (Up.drew (UW2.out.alloc _))).mono ?_; rintro e w3 ⟨⟨F1, f1, F2, f2, rfl, s6, s7⟩, u3⟩; obtain ⟨la, ga⟩ := u3.at_ w.heap.size (by (try simp) <;> omega); obtain ⟨lb, gb⟩ := u3.at_ (w.heap.size + 1) (by (try simp) <;> omega); obtain ⟨lc, gc⟩ := u3.at_ (w.heap.size + 1 + 1) (by (try simp) <;> omega); obtain ⟨ld, gd⟩ := u3.at_ w2.heap.size (by simp); have hz3 := u3.size; (try simp at hz3); have x0 : w.heap.size < w3.heap.size := (by omega); have x1 : w.heap.size + 1 < w3.heap.size := (by omega); have x2 : w.heap.size + 1 + 1 < w3.heap.size := (by omega); have x3 : w2.heap.size < w3.heap.size := (by omega); have S6 := Lib.hid s6; have S7 := Lib.hid s7; have U23 := Lib.hid (show Up w2 w3 from (((Up.refl w2).alloc _).drew).trans u3); clear s6 s7 u3; unfold actV) | (go_at_call 22; refine (rsame_is (a := r.1) (b := plainOf a) (S4.out.up U23.out) (S5.out.up U23.out) S6.out S7.out).mono ?_; rintro e w4 ⟨rfl, u4⟩; rw [HSB.out]; obtain ⟨ma, oa⟩ := u4.at_ w.heap.size (by (try simp) <;> omega); obtain ⟨mb, ob⟩ := u4.at_ (w.heap.size + 1) (by (try simp) <;> omega); obtain ⟨mc, oc⟩ := u4.at_ (w.heap.size + 1 + 1) (by (try simp) <;> omega); have hz4 := u4.size; (try simp at hz4); have z0 : w.heap.size < w4.heap.size := (by omega); have z1 : w.heap.size + 1 < w4.heap.size := (by omega); have z2 : w.heap.size + 1 + 1 < w4.heap.size := (by omega); have U34 := Lib.hid u4; clear u4))
      all_goals
        go_wp2
        refine bodyPost_ret (v := .tuple #[.agg #[.int .u8 1, .slice (some ⟨w.heap.size + 1 + 1 + 1, 0, none⟩) 2 2], .int .i64 0]) (by simp [results, Tryd.results27, go_sem, ka, kb, kc, y0, y1, y2, la, lb, lc, x1, x2, ma, mb, mc, z1, z2]) rfl ⟨some ⟨w.heap.size + 1 + 1 + 1, 0, none⟩, 2, rfl, ?_, by have hU := UW2.out.trans (U23.out.trans U34.out); (repeat (first | with_reducible exact Up.refl _ | with_reducible refine Up.alloc ?_ _ | with_reducible refine Up.drew ?_ | with_reducible refine Up.drewN ?_ _ | with_reducible refine Up.setCell ?_ (by (try simp) <;> omega) _ | with_reducible assumption | with_reducible refine Up.trans ?_ (by assumption)))⟩
        refine Sl.low (B := w.heap.size + 1 + 1 + 1) ?_ (by omega)
        repeat with_reducible refine Sl.set1 ?_ (by omega) _ _
        have hs := (((sl_lit _ [255, 2] (by intro x hx; simp only [List.mem_cons, List.mem_nil_iff, or_false] at hx; rcases hx with rfl | rfl <;> omega) (by simp) 2 (w.heap.size + 1 + 1 + 1) (by simp) _ rfl rfl).up U2.out).up U23.out).up U34.out
        simpa using hs
  · have e2 : (r.2 != 0) = true := by simpa using h2
    have hRR : R = (0, [], 4) := hR'.out.trans (by simp [h2])
    rw [hRR]
    clear h2 hRR
    unfold actV
    go_enter Tryd.func27, Tryd.ntmps27
    go_wp2_with fail
    refine (rof_is (id := 1) (l := [255, 2]) (B := 0) ?_).mono ?_
    · exact Sl.low (sl_lit _ [255, 2] (by intro x hx; simp only [List.mem_cons, List.mem_nil_iff, or_false] at hx; rcases hx with rfl | rfl <;> omega) (by simp) 2 _ (by simp) _ rfl rfl) (Nat.zero_le _)
    rw [HRR.out]
    rintro e w2 ⟨E1, d1, E2, d2, rfl, s4, s5, u2⟩
    obtain ⟨ka, fa⟩ := u2.at_ w.heap.size (by (try simp) <;> omega)
    obtain ⟨kb, fb⟩ := u2.at_ (w.heap.size + 1) (by (try simp) <;> omega)
    obtain ⟨kc, fc⟩ := u2.at_ (w.heap.size + 1 + 1) (by (try simp) <;> omega)
    have uw2 : Up w w2 := by (repeat (first | with_reducible exact Up.refl _ | with_reducible refine Up.alloc ?_ _ | with_reducible refine Up.drew ?_ | with_reducible refine Up.drewN ?_ _ | with_reducible refine Up.setCell ?_ (by (try simp) <;> omega) _ | with_reducible assumption | with_reducible refine Up.trans ?_ (by assumption)))
    have hz2 := u2.size
    (try simp at hz2)
    have y0 : w.heap.size < w2.heap.size := by omega
    have y1 : w.heap.size + 1 < w2.heap.size := by omega
    have y2 : w.heap.size + 1 + 1 < w2.heap.size := by omega
    have S4 := Lib.hid s4
    have S5 := Lib.hid s5
    have UW2 := Lib.hid uw2
    have U2 := Lib.hid u2
    clear s4 s5 u2 uw2
    unfold actV
    go_wp2
    go_quiet (fail)
    go_wp2
    exact bodyPost_ret (v := .tuple #[.agg #[.int .u8 0, .slice none 0 0], .int .i64 4]) (by simp [results, Tryd.results27, go_sem, ka, kb, kc, y0, y1, y2]) rfl ⟨none, 0, rfl, Sl.none_, by have hU := UW2.out; (repeat (first | with_reducible exact Up.refl _ | with_reducible refine Up.alloc ?_ _ | with_reducible refine Up.drew ?_ | with_reducible refine Up.drewN ?_ _ | with_reducible refine Up.setCell ?_ (by (try simp) <;> omega) _ | with_reducible assumption | with_reducible refine Up.trans ?_ (by assumption)))⟩

end Go.Proofs.YtfambgigdhkiaaaDoor
