/-
  sfield's (Act).Field: the field of an act, or that there is none. Condition: write's table lies as the row lists it.
-/
import Derived.Test.YtfambgigdhkiaaaDoorSTold
namespace Go.Proofs.YtfambgigdhkiaaaDoor
open Go.RowKit
set_option linter.unusedVariables false
set_option linter.unusedSimpArgs false

/-- the field of an act; or the error -/
def fieldOf (a : PAct) : Int × List Int × Int :=
  if (dataOf a).2.2 = true then
    (if (actOf (dataOf a).1 (dataOf a).2.1).2 = 0 ∧ (actOf (dataOf a).1 (dataOf a).2.1).1.kind = a.kind ∧ toldB a (actOf (dataOf a).1 (dataOf a).2.1).1 = true then ((dataOf a).1, (dataOf a).2.1, 0) else (0, [], 4))
  else (0, [], 1)
def FieldRet (w : World) (r : Int × List Int × Int) (e : Ending) (w' : World) : Prop :=
  ∃ A c, e = .returned (.tuple #[.agg #[.int .u8 r.1, .slice A r.2.1.length c], .int .i64 r.2.2]) ∧ Sl w.heap.size w' A r.2.1.length c r.2.1 ∧ Up w w'
set_option maxHeartbeats 6400000 in
theorem field_is {a : PAct} {A1 A2 : Option Addr} {B1 B2 c1 c2 : Nat} {w : World} (ht : TabW w) (hq : 0 ≤ a.req ∧ a.req ≤ 255) (h1 : Sl B1 w A1 a.codes.length c1 a.codes) (h2 : Sl B2 w A2 a.rec_.length c2 a.rec_) (n1 : a.codes.length ≤ 60000) (n2 : a.rec_.length ≤ 60000) :
    Calls Tryd.prog 26 #[actV a A1 c1 A2 c2] w (FieldRet w (fieldOf a)) := by
  have HD := Lib.hid (fun w' (hu : Up w w') => data_is (ht.up hu) hq (h1.up hu) (h2.up hu) n1 n2)
  have H1 := Lib.hid h1
  have H2 := Lib.hid h2
  have HT := Lib.hid ht
  have HR : ∃ R, fieldOf a = R := ⟨_, rfl⟩
  obtain ⟨R, hR⟩ := HR
  have hR' := Lib.hid (show R = _ from hR.symm.trans (by unfold fieldOf; rfl))
  rw [hR]
  clear h1 h2 ht hq n1 n2 hR
  obtain ⟨d, hd⟩ : ∃ d, dataOf a = d := ⟨_, rfl⟩
  rw [hd] at HD hR'
  clear hd
  obtain ⟨i, dl, ok⟩ := d
  simp only at hR'
  unfold actV
  cases ok
  · rw [show R = (0, [], 1) from hR'.out.trans (by rfl)]
    go_enter Tryd.func26, Tryd.ntmps26
    go_wp2_with fail
    refine (HD.out _ (by (repeat (first | with_reducible exact Up.refl _ | with_reducible refine Up.alloc ?_ _ | with_reducible refine Up.drew ?_ | with_reducible refine Up.drewN ?_ _ | with_reducible refine Up.setCell ?_ (by (try simp) <;> omega) _ | with_reducible assumption | with_reducible refine Up.trans ?_ (by assumption))))).mono ?_
    rintro e w1 ⟨A3, c3, rfl, s3, hb_w1⟩
    have hu_w1 : Up w w1 := by (repeat (first | with_reducible exact Up.refl _ | with_reducible refine Up.alloc ?_ _ | with_reducible refine Up.drew ?_ | with_reducible refine Up.drewN ?_ _ | with_reducible refine Up.setCell ?_ (by (try simp) <;> omega) _ | with_reducible assumption | with_reducible refine Up.trans ?_ (by assumption)))
    have hz_w1 := Up.size hb_w1
    try simp at hz_w1
    obtain ⟨bd_w1_0, be_w1_0⟩ := hb_w1.at_ (w.heap.size) (by (try simp) <;> omega)
    obtain ⟨bd_w1_1, be_w1_1⟩ := hb_w1.at_ (w.heap.size + 1) (by (try simp) <;> omega)
    have zb_w1_0 : w.heap.size < w1.heap.size := by omega
    have zb_w1_1 : w.heap.size + 1 < w1.heap.size := by omega
    go_wp2_with fail
    exact bodyPost_ret (v := .tuple #[.agg #[.int .u8 0, .slice none 0 0], .int .i64 1]) (by simp [results, Tryd.results26, go_sem, bd_w1_0, bd_w1_1]) rfl ⟨none, 0, rfl, Sl.none_, by (repeat (first | with_reducible exact Up.refl _ | with_reducible refine Up.alloc ?_ _ | with_reducible refine Up.drew ?_ | with_reducible refine Up.drewN ?_ _ | with_reducible refine Up.setCell ?_ (by (try simp) <;> omega) _ | with_reducible assumption | with_reducible refine Up.trans ?_ (by assumption)))⟩
  · obtain ⟨r, hr⟩ : ∃ r, actOf i dl = r := ⟨_, rfl⟩
    rw [hr] at hR'
    have HRR := Lib.hid hr
    clear hr
    by_cases h2 : r.2 = 0
    · have e2 : (r.2 != 0) = false := by simpa using h2
      by_cases hk : r.1.kind = a.kind
      · have ek : (r.1.kind != a.kind) = false := by simpa using hk
        cases htb : toldB a r.1
        · have hRR : R = (0, [], 4) := hR'.out.trans (by rw [htb]; simp)
          rw [hRR]
          have HTB := Lib.hid htb
          clear h2 hk htb hRR
          go_enter Tryd.func26, Tryd.ntmps26
          go_wp2_with fail
          refine (HD.out _ (by (repeat (first | with_reducible exact Up.refl _ | with_reducible refine Up.alloc ?_ _ | with_reducible refine Up.drew ?_ | with_reducible refine Up.drewN ?_ _ | with_reducible refine Up.setCell ?_ (by (try simp) <;> omega) _ | with_reducible assumption | with_reducible refine Up.trans ?_ (by assumption))))).mono ?_
          rintro e w1 ⟨A3, c3, rfl, s3, hb_w1⟩
          have hu_w1 : Up w w1 := by (repeat (first | with_reducible exact Up.refl _ | with_reducible refine Up.alloc ?_ _ | with_reducible refine Up.drew ?_ | with_reducible refine Up.drewN ?_ _ | with_reducible refine Up.setCell ?_ (by (try simp) <;> omega) _ | with_reducible assumption | with_reducible refine Up.trans ?_ (by assumption)))
          have hz_w1 := Up.size hb_w1
          try simp at hz_w1
          obtain ⟨bd_w1_0, be_w1_0⟩ := hb_w1.at_ (w.heap.size) (by (try simp) <;> omega)
          obtain ⟨bd_w1_1, be_w1_1⟩ := hb_w1.at_ (w.heap.size + 1) (by (try simp) <;> omega)
          have zb_w1_0 : w.heap.size < w1.heap.size := by omega
          have zb_w1_1 : w.heap.size + 1 < w1.heap.size := by omega
          go_wp2_with fail
          have HA := Lib.hid (fun w' (hu : Up w1 w') => act_is (id := i) (HT.out.up (hu_w1.trans hu)) (s3.up hu))
          rw [HRR.out] at HA
          refine (HA.out _ (show Up w1 _ from (Up.refl w1).alloc _)).mono ?_
          rintro e w2 ⟨E1, d1, E2, d2, rfl, s4, s5, u2⟩
          obtain ⟨ka, fa⟩ := u2.at_ w.heap.size (by (try simp) <;> omega)
          obtain ⟨kb, fb⟩ := u2.at_ (w.heap.size + 1) (by (try simp) <;> omega)
          obtain ⟨kc, fc⟩ := u2.at_ w1.heap.size (by simp)
          have hz2 := u2.size
          simp at hz2
          have y0 : w.heap.size < w2.heap.size := by omega
          have y1 : w.heap.size + 1 < w2.heap.size := by omega
          have y2 : w1.heap.size < w2.heap.size := by omega
          have u12 : Up w1 w2 := ((Up.refl w1).alloc _).trans u2
          have S4 := Lib.hid s4
          have S5 := Lib.hid s5
          have S3 := Lib.hid s3
          clear s3 s4 s5 u2
          unfold actV
          go_wp2_with fail
          refine (told_is (a := a) (b := r.1) (H1.out.up (show Up w _ by (repeat (first | with_reducible exact Up.refl _ | with_reducible refine Up.alloc ?_ _ | with_reducible refine Up.drew ?_ | with_reducible refine Up.drewN ?_ _ | with_reducible refine Up.setCell ?_ (by (try simp) <;> omega) _ | with_reducible assumption | with_reducible refine Up.trans ?_ (by assumption))))) (H2.out.up (show Up w _ by (repeat (first | with_reducible exact Up.refl _ | with_reducible refine Up.alloc ?_ _ | with_reducible refine Up.drew ?_ | with_reducible refine Up.drewN ?_ _ | with_reducible refine Up.setCell ?_ (by (try simp) <;> omega) _ | with_reducible assumption | with_reducible refine Up.trans ?_ (by assumption))))) (S4.out.up ((Up.refl w2).alloc _)) (S5.out.up ((Up.refl w2).alloc _))).mono ?_
          rintro e w4 ⟨rfl, u4⟩
          obtain ⟨la, ga⟩ := u4.at_ w.heap.size (by (try simp) <;> omega)
          obtain ⟨lb, gb⟩ := u4.at_ (w.heap.size + 1) (by (try simp) <;> omega)
          obtain ⟨lc, gc⟩ := u4.at_ w1.heap.size (by (try simp) <;> omega)
          have hz4 := u4.size
          simp at hz4
          have x0 : w.heap.size < w4.heap.size := by omega
          have x1 : w.heap.size + 1 < w4.heap.size := by omega
          have x2 : w1.heap.size < w4.heap.size := by omega
          rw [HTB.out]
          go_wp2
          exact bodyPost_ret (v := .tuple #[.agg #[.int .u8 0, .slice none 0 0], .int .i64 4]) (by simp [results, Tryd.results26, go_sem, bd_w1_0, bd_w1_1, ka, kb, la, lb, zb_w1_1, y1, x1]) rfl ⟨none, 0, rfl, Sl.none_, by (repeat (first | with_reducible exact Up.refl _ | with_reducible refine Up.alloc ?_ _ | with_reducible refine Up.drew ?_ | with_reducible refine Up.drewN ?_ _ | with_reducible refine Up.setCell ?_ (by (try simp) <;> omega) _ | with_reducible assumption | with_reducible refine Up.trans ?_ (by assumption)))⟩
        · have hRR : R = (i, dl, 0) := hR'.out.trans (by rw [htb]; simp [h2, hk])
          rw [hRR]
          have HTB := Lib.hid htb
          clear h2 hk htb hRR
          go_enter Tryd.func26, Tryd.ntmps26
          go_wp2_with fail
          refine (HD.out _ (by (repeat (first | with_reducible exact Up.refl _ | with_reducible refine Up.alloc ?_ _ | with_reducible refine Up.drew ?_ | with_reducible refine Up.drewN ?_ _ | with_reducible refine Up.setCell ?_ (by (try simp) <;> omega) _ | with_reducible assumption | with_reducible refine Up.trans ?_ (by assumption))))).mono ?_
          rintro e w1 ⟨A3, c3, rfl, s3, hb_w1⟩
          have hu_w1 : Up w w1 := by (repeat (first | with_reducible exact Up.refl _ | with_reducible refine Up.alloc ?_ _ | with_reducible refine Up.drew ?_ | with_reducible refine Up.drewN ?_ _ | with_reducible refine Up.setCell ?_ (by (try simp) <;> omega) _ | with_reducible assumption | with_reducible refine Up.trans ?_ (by assumption)))
          have hz_w1 := Up.size hb_w1
          try simp at hz_w1
          obtain ⟨bd_w1_0, be_w1_0⟩ := hb_w1.at_ (w.heap.size) (by (try simp) <;> omega)
          obtain ⟨bd_w1_1, be_w1_1⟩ := hb_w1.at_ (w.heap.size + 1) (by (try simp) <;> omega)
          have zb_w1_0 : w.heap.size < w1.heap.size := by omega
          have zb_w1_1 : w.heap.size + 1 < w1.heap.size := by omega
          go_wp2_with fail
          have HA := Lib.hid (fun w' (hu : Up w1 w') => act_is (id := i) (HT.out.up (hu_w1.trans hu)) (s3.up hu))
          rw [HRR.out] at HA
          refine (HA.out _ (show Up w1 _ from (Up.refl w1).alloc _)).mono ?_
          rintro e w2 ⟨E1, d1, E2, d2, rfl, s4, s5, u2⟩
          obtain ⟨ka, fa⟩ := u2.at_ w.heap.size (by (try simp) <;> omega)
          obtain ⟨kb, fb⟩ := u2.at_ (w.heap.size + 1) (by (try simp) <;> omega)
          obtain ⟨kc, fc⟩ := u2.at_ w1.heap.size (by simp)
          have hz2 := u2.size
          simp at hz2
          have y0 : w.heap.size < w2.heap.size := by omega
          have y1 : w.heap.size + 1 < w2.heap.size := by omega
          have y2 : w1.heap.size < w2.heap.size := by omega
          have u12 : Up w1 w2 := ((Up.refl w1).alloc _).trans u2
          have S4 := Lib.hid s4
          have S5 := Lib.hid s5
          have S3 := Lib.hid s3
          clear s3 s4 s5 u2
          unfold actV
          go_wp2_with fail
          refine (told_is (a := a) (b := r.1) (H1.out.up (show Up w _ by (repeat (first | with_reducible exact Up.refl _ | with_reducible refine Up.alloc ?_ _ | with_reducible refine Up.drew ?_ | with_reducible refine Up.drewN ?_ _ | with_reducible refine Up.setCell ?_ (by (try simp) <;> omega) _ | with_reducible assumption | with_reducible refine Up.trans ?_ (by assumption))))) (H2.out.up (show Up w _ by (repeat (first | with_reducible exact Up.refl _ | with_reducible refine Up.alloc ?_ _ | with_reducible refine Up.drew ?_ | with_reducible refine Up.drewN ?_ _ | with_reducible refine Up.setCell ?_ (by (try simp) <;> omega) _ | with_reducible assumption | with_reducible refine Up.trans ?_ (by assumption))))) (S4.out.up ((Up.refl w2).alloc _)) (S5.out.up ((Up.refl w2).alloc _))).mono ?_
          rintro e w4 ⟨rfl, u4⟩
          obtain ⟨la, ga⟩ := u4.at_ w.heap.size (by (try simp) <;> omega)
          obtain ⟨lb, gb⟩ := u4.at_ (w.heap.size + 1) (by (try simp) <;> omega)
          obtain ⟨lc, gc⟩ := u4.at_ w1.heap.size (by (try simp) <;> omega)
          have hz4 := u4.size
          simp at hz4
          have x0 : w.heap.size < w4.heap.size := by omega
          have x1 : w.heap.size + 1 < w4.heap.size := by omega
          have x2 : w1.heap.size < w4.heap.size := by omega
          rw [HTB.out]
          go_wp2
          refine bodyPost_ret (v := .tuple #[.agg #[.int .u8 i, .slice A3 dl.length c3], .int .i64 0]) (by simp [results, Tryd.results26, go_sem, bd_w1_0, bd_w1_1, ka, kb, la, lb, zb_w1_1, y1, x1]) rfl ⟨A3, c3, rfl, ?_, by (repeat (first | with_reducible exact Up.refl _ | with_reducible refine Up.alloc ?_ _ | with_reducible refine Up.drew ?_ | with_reducible refine Up.drewN ?_ _ | with_reducible refine Up.setCell ?_ (by (try simp) <;> omega) _ | with_reducible assumption | with_reducible refine Up.trans ?_ (by assumption)))⟩
          show Sl w.heap.size _ A3 dl.length c3 dl
          have u14 := (u12.alloc (.cells #[.int .i64 r.1.kind, .int .i64 r.1.cmd, .int .i64 r.1.mode, .bool r.1.alt, .int .u8 r.1.req, .slice E1 r.1.codes.length d1, .slice E2 r.1.rec_.length d2] 50)).trans u4
          refine Sl.low (B := w.heap.size + 1 + 1) ?_ (by omega)
          repeat with_reducible refine Sl.set1 ?_ (by omega) _ _
          have := S3.out.up u14
          simpa using this
      · have ek : (r.1.kind != a.kind) = true := by simpa using hk
        have hRR : R = (0, [], 4) := hR'.out.trans (by simp [hk])
        rw [hRR]
        clear h2 hk hRR
        go_enter Tryd.func26, Tryd.ntmps26
        go_wp2_with fail
        refine (HD.out _ (by (repeat (first | with_reducible exact Up.refl _ | with_reducible refine Up.alloc ?_ _ | with_reducible refine Up.drew ?_ | with_reducible refine Up.drewN ?_ _ | with_reducible refine Up.setCell ?_ (by (try simp) <;> omega) _ | with_reducible assumption | with_reducible refine Up.trans ?_ (by assumption))))).mono ?_
        rintro e w1 ⟨A3, c3, rfl, s3, hb_w1⟩
        have hu_w1 : Up w w1 := by (repeat (first | with_reducible exact Up.refl _ | with_reducible refine Up.alloc ?_ _ | with_reducible refine Up.drew ?_ | with_reducible refine Up.drewN ?_ _ | with_reducible refine Up.setCell ?_ (by (try simp) <;> omega) _ | with_reducible assumption | with_reducible refine Up.trans ?_ (by assumption)))
        have hz_w1 := Up.size hb_w1
        try simp at hz_w1
        obtain ⟨bd_w1_0, be_w1_0⟩ := hb_w1.at_ (w.heap.size) (by (try simp) <;> omega)
        obtain ⟨bd_w1_1, be_w1_1⟩ := hb_w1.at_ (w.heap.size + 1) (by (try simp) <;> omega)
        have zb_w1_0 : w.heap.size < w1.heap.size := by omega
        have zb_w1_1 : w.heap.size + 1 < w1.heap.size := by omega
        go_wp2_with fail
        have HA := Lib.hid (fun w' (hu : Up w1 w') => act_is (id := i) (HT.out.up (hu_w1.trans hu)) (s3.up hu))
        rw [HRR.out] at HA
        refine (HA.out _ (show Up w1 _ from (Up.refl w1).alloc _)).mono ?_
        rintro e w2 ⟨E1, d1, E2, d2, rfl, s4, s5, u2⟩
        obtain ⟨ka, fa⟩ := u2.at_ w.heap.size (by (try simp) <;> omega)
        obtain ⟨kb, fb⟩ := u2.at_ (w.heap.size + 1) (by (try simp) <;> omega)
        obtain ⟨kc, fc⟩ := u2.at_ w1.heap.size (by simp)
        have hz2 := u2.size
        simp at hz2
        have y0 : w.heap.size < w2.heap.size := by omega
        have y1 : w.heap.size + 1 < w2.heap.size := by omega
        have y2 : w1.heap.size < w2.heap.size := by omega
        have u12 : Up w1 w2 := ((Up.refl w1).alloc _).trans u2
        have S4 := Lib.hid s4
        have S5 := Lib.hid s5
        have S3 := Lib.hid s3
        clear s3 s4 s5 u2
        unfold actV
        go_wp2
        exact bodyPost_ret (v := .tuple #[.agg #[.int .u8 0, .slice none 0 0], .int .i64 4]) (by simp [results, Tryd.results26, go_sem, bd_w1_0, bd_w1_1, ka, kb, zb_w1_1, y1]) rfl ⟨none, 0, rfl, Sl.none_, by (repeat (first | with_reducible exact Up.refl _ | with_reducible refine Up.alloc ?_ _ | with_reducible refine Up.drew ?_ | with_reducible refine Up.drewN ?_ _ | with_reducible refine Up.setCell ?_ (by (try simp) <;> omega) _ | with_reducible assumption | with_reducible refine Up.trans ?_ (by assumption)))⟩
    · have e2 : (r.2 != 0) = true := by simpa using h2
      have hRR : R = (0, [], 4) := hR'.out.trans (by simp [h2])
      rw [hRR]
      clear h2 hRR
      go_enter Tryd.func26, Tryd.ntmps26
      go_wp2_with fail
      refine (HD.out _ (by (repeat (first | with_reducible exact Up.refl _ | with_reducible refine Up.alloc ?_ _ | with_reducible refine Up.drew ?_ | with_reducible refine Up.drewN ?_ _ | with_reducible refine Up.setCell ?_ (by (try simp) <;> omega) _ | with_reducible assumption | with_reducible refine Up.trans ?_ (by assumption))))).mono ?_
      rintro e w1 ⟨A3, c3, rfl, s3, hb_w1⟩
      have hu_w1 : Up w w1 := by (repeat (first | with_reducible exact Up.refl _ | with_reducible refine Up.alloc ?_ _ | with_reducible refine Up.drew ?_ | with_reducible refine Up.drewN ?_ _ | with_reducible refine Up.setCell ?_ (by (try simp) <;> omega) _ | with_reducible assumption | with_reducible refine Up.trans ?_ (by assumption)))
      have hz_w1 := Up.size hb_w1
      try simp at hz_w1
      obtain ⟨bd_w1_0, be_w1_0⟩ := hb_w1.at_ (w.heap.size) (by (try simp) <;> omega)
      obtain ⟨bd_w1_1, be_w1_1⟩ := hb_w1.at_ (w.heap.size + 1) (by (try simp) <;> omega)
      have zb_w1_0 : w.heap.size < w1.heap.size := by omega
      have zb_w1_1 : w.heap.size + 1 < w1.heap.size := by omega
      go_wp2_with fail
      have HA := Lib.hid (fun w' (hu : Up w1 w') => act_is (id := i) (HT.out.up (hu_w1.trans hu)) (s3.up hu))
      rw [HRR.out] at HA
      refine (HA.out _ (show Up w1 _ from (Up.refl w1).alloc _)).mono ?_
      rintro e w2 ⟨E1, d1, E2, d2, rfl, s4, s5, u2⟩
      obtain ⟨ka, fa⟩ := u2.at_ w.heap.size (by (try simp) <;> omega)
      obtain ⟨kb, fb⟩ := u2.at_ (w.heap.size + 1) (by (try simp) <;> omega)
      obtain ⟨kc, fc⟩ := u2.at_ w1.heap.size (by simp)
      have hz2 := u2.size
      simp at hz2
      have y0 : w.heap.size < w2.heap.size := by omega
      have y1 : w.heap.size + 1 < w2.heap.size := by omega
      have y2 : w1.heap.size < w2.heap.size := by omega
      have u12 : Up w1 w2 := ((Up.refl w1).alloc _).trans u2
      have S4 := Lib.hid s4
      have S5 := Lib.hid s5
      have S3 := Lib.hid s3
      clear s3 s4 s5 u2
      unfold actV
      go_wp2
      exact bodyPost_ret (v := .tuple #[.agg #[.int .u8 0, .slice none 0 0], .int .i64 4]) (by simp [results, Tryd.results26, go_sem, bd_w1_0, bd_w1_1, ka, kb, zb_w1_1, y1]) rfl ⟨none, 0, rfl, Sl.none_, by (repeat (first | with_reducible exact Up.refl _ | with_reducible refine Up.alloc ?_ _ | with_reducible refine Up.drew ?_ | with_reducible refine Up.drewN ?_ _ | with_reducible refine Up.setCell ?_ (by (try simp) <;> omega) _ | with_reducible assumption | with_reducible refine Up.trans ?_ (by assumption)))⟩
end Go.Proofs.YtfambgigdhkiaaaDoor
