/-
  The scanner's op: RA. No condition but the slice's own reach.
-/
import Derived.Test.YtahlilogobfhcaaOrd8
namespace Go.Proofs.Ytahlilogobfhcaa
open Go.RowKit
set_option linter.unusedVariables false
set_option linter.unusedSimpArgs false

/-- what stands behind an address is no code -/
def badTail : List Int → Bool
  | [] => true
  | x :: l => if x = 8 then (match l with | [] => true | y :: _ => isOrd y) else isOrd x
theorem addr_any {w : World} {b : Nat} {A : Option Addr} {n c : Nat} {q : List Int} (h : Sc w b A n c q 0) (hd : q.length < 2 ∨ decE 12 (q.getD 0 0) ≠ 0 ∨ badTail (q.drop 2) = true) :
    Calls Try.prog 19 #[.pointer (some ⟨b, 0, none⟩)] w fun e w' => ∃ v A' n' c' l' e1, e = .returned (.int .i64 v) ∧ (e1 ≠ 0 ∨ badTail l' = true) ∧ Sc w' b A' n' c' l' e1 ∧ Near b w w' := by
  by_cases h1 : q.length < 2 ∨ decE 12 (q.getD 0 0) ≠ 0
  · refine (addr_no h h1).mono ?_
    rintro e w' ⟨v, A', n', c', l', e1, rfl, h2, h3, h4⟩
    exact ⟨v, A', n', c', l', e1, rfl, .inl h2, h3, h4⟩
  · simp only [not_or] at h1
    obtain ⟨h1, h2⟩ := h1
    match q, h, hd, h1, h2 with
    | [], _, _, h1, _ => simp at h1
    | [_], _, _, h1, _ => simp at h1
    | x :: y :: r, h, hd, h1, h2 =>
      have h3 : decE 12 x = 0 := by simpa using h2
      have h4 : badTail r = true := by
        rcases hd with hd | hd | hd
        · exact absurd hd h1
        · exact absurd hd h2
        · exact hd
      refine (addr_ok h h3).mono ?_
      rintro e w' ⟨rfl, ⟨A', n', c', hs⟩, hk⟩
      exact ⟨_, A', n', c', r, 0, rfl, .inr h4, hs, hk⟩
set_option maxHeartbeats 6400000 in
theorem op_ra8 {w : World} {b : Nat} {A : Option Addr} {n c : Nat} {y0 z0 y : Int} {r : List Int} (h : Sc w b A n c (60 :: y0 :: z0 :: 8 :: y :: r) 0) (hd : decE 12 y0 = 0) (hy : isOrd y = false) :
    Calls Try.prog 15 #[.pointer (some ⟨b, 0, none⟩)] w (GoodOp w b r ⟨60, decN 12 y0 z0, y, true, 0, [], []⟩) := by
  obtain ⟨v, hv⟩ : ∃ v, decN 12 y0 z0 = v := ⟨_, rfl⟩
  have HA := Lib.hid (fun W A n c (h : Sc W b A n c (y0 :: z0 :: 8 :: y :: r) 0) => addr_ok h hd)
  rw [hv] at HA ⊢
  have HY := Lib.hid hy
  have HT8 := Lib.hid (show (y == 8) = false by cases h8 : (y == 8) with | false => rfl | true => (have : y = 8 := by simpa using h8); subst this; cases hy)
  clear hv hd hy
  have HI := Lib.hid (fun w => is_is (h.sl.bytes 60 (by simp)) w)
  have HT := Lib.hid (fun W (hu : Up w W) => (h.up hu).tail1)
  obtain ⟨g, off, rfl, zg, hgb, hx0⟩ := h.cell (i := 0) (by have := h.sl.len; simp at this; omega)
  simp only [List.getD_cons_zero, Nat.add_zero] at hx0
  have hn : (0 : Int) < (n : Int) := by have := h.sl.len; simp at this; omega
  have s0 := h.c0
  have zb := h.lt
  have HB := Lib.hid h.lt
  rw [show isOrd 60 = true from rfl] at HI
  clear h
  go_enter Try.func15, Try.ntmps15
  go_wp2_with fail
  refine (HI.out _).mono ?_
  rintro e w1 ⟨rfl, rfl⟩
  have HR0 := Lib.hid (Op7.new w 0 0 0 false 0 noS noS w.heap.size rfl)
  have HU0 := Lib.hid ((Up.refl w).alloc (.cells #[.int .i64 0, .int .i64 0, .int .u8 0, .bool false, .int .u8 0, .slice none 0 0, .slice none 0 0] 35))
  go_wp2_with fail
  refine (HT.out _ HU0.out).mono ?_
  rintro e w2 ⟨rfl, ⟨A2, n2, c2, hs2⟩, hk2⟩
  have d0 := ((hk2.at_ g (by simp; omega) hgb).1 off).trans ((((Up.refl w).alloc (.cells #[.int .i64 0, .int .i64 0, .int .u8 0, .bool false, .int .u8 0, .slice none 0 0, .slice none 0 0] 35)).at_ g zg).1 off |>.trans hx0)
  have zg2 := cell_lt d0
  simp only at zg2
  have HR2 := Lib.hid (HR0.out.keep hk2 (by omega))
  have HS2 := Lib.hid hs2
  have HN2 := Lib.hid (show Near b w w2 from (Keep.of_up HU0.out).trans hk2)
  have z2 := hk2.size
  simp at z2
  clear hs2 hk2 s0 hx0
  go_wp2_with fail
  refine (HA.out _ _ _ _ (HS2.out.up ((Up.refl _).alloc _))).mono ?_
  rintro e w3 ⟨rfl, ⟨A3, n3, c3, hs3⟩, hk3⟩
  have HO3 := Lib.hid ((Op7.new w2 60 0 0 false 0 noS noS w2.heap.size rfl).keep hk3 (by have := HS2.out.lt; omega))
  have HR3 := Lib.hid ((HR2.out.up ((Up.refl _).alloc _)).keep hk3 (by have := HB.out; omega))
  have HS3 := Lib.hid hs3
  have HN3 := Lib.hid (show Near b w w3 from (HN2.out.up ((Up.refl _).alloc _)).trans hk3)
  have hz3 : w2.heap.size < w3.heap.size := by have := hk3.size; simp at this; omega
  have HZ := Lib.hid (show w.heap.size < w2.heap.size ∧ b < w.heap.size from ⟨by omega, HB.out⟩)
  clear hs3 hk3 d0 zg2
  obtain ⟨of, olt, o0, o1, o2, o3, o4, o5, o6⟩ := HO3.out
  obtain ⟨rf, rlt, r0, r1, r2, r3, r4, r5, r6⟩ := HR3.out
  unfold noS at o5 o6 r5 r6
  obtain ⟨g3, f3, rfl, zg3, hgb3, ht3⟩ := HS3.out.cell (i := 0) (by have := HS3.out.sl.len; simp at this; omega)
  simp only [List.getD_cons_zero, Nat.add_zero] at ht3
  have s3 := HS3.out.c0
  have zb3 := HS3.out.lt
  have q3 : (0 : Int) < (n3 : Int) := by have := HS3.out.sl.len; simp at this; omega
  have hg3 : g3 ≠ w2.heap.size := by have := HS3.out.lo _ rfl; have := HZ.out; simp at *; omega
  go_wp2_with fail
  refine ((HS3.out.far (near_set w3 w2.heap.size 1 (.int .i64 v)) (fun k e => by have := HZ.out; omega)).tail1).mono ?_
  rintro e w4 ⟨rfl, ⟨A4, n4, c4, hs4⟩, hk4⟩
  have HO4 := Lib.hid ((HO3.out.s1 v).keep hk4 (by have := HZ.out; omega))
  have HR4 := Lib.hid ((HR3.out.keep (near_set w3 w2.heap.size 1 (.int .i64 v)) (by have := HZ.out; omega)).keep hk4 (by have := HZ.out; omega))
  have HS4 := Lib.hid hs4
  have HN4 := Lib.hid (show Near b w w4 from (near_of HN3.out (Keep.mono (near_set w3 w2.heap.size 1 (.int .i64 v)) (fun k e => by have := HZ.out; omega))).trans hk4)
  clear hs4 hk4 ht3 s3 q3 of olt o0 o1 o2 o3 o4 o5 o6 rf rlt r0 r1 r2 r3 r4 r5 r6
  obtain ⟨of, olt, o0, o1, o2, o3, o4, o5, o6⟩ := HO4.out
  obtain ⟨rf, rlt, r0, r1, r2, r3, r4, r5, r6⟩ := HR4.out
  unfold noS at o5 o6 r5 r6
  go_wp2_with fail
  refine (char_ok (HS4.out.far (near_set w4 w2.heap.size 3 (.bool true)) (fun k e => by have := HZ.out; omega)) HY.out).mono ?_
  rintro e w5 ⟨rfl, ⟨A5, n5, c5, hs5⟩, hk5⟩
  have HO5 := Lib.hid ((HO4.out.s3 true).keep hk5 (by have := HZ.out; omega))
  have HR5 := Lib.hid ((HR4.out.keep (near_set w4 w2.heap.size 3 (.bool true)) (by have := HZ.out; omega)).keep hk5 (by have := HZ.out; omega))
  have HS5 := Lib.hid hs5
  have HN5 := Lib.hid (show Near b w w5 from (near_of HN4.out (Keep.mono (near_set w4 w2.heap.size 3 (.bool true)) (fun k e => by have := HZ.out; omega))).trans hk5)
  clear hs5 hk5 of olt o0 o1 o2 o3 o4 o5 o6 rf rlt r0 r1 r2 r3 r4 r5 r6
  obtain ⟨of, olt, o0, o1, o2, o3, o4, o5, o6⟩ := HO5.out
  obtain ⟨rf, rlt, r0, r1, r2, r3, r4, r5, r6⟩ := HR5.out
  unfold noS at o5 o6 r5 r6
  go_wp2_with fail
  have hk := (Keep.setCell (Keep.refl (fun k => k = w.heap.size ∨ k = w2.heap.size) w5) (p := ⟨w2.heap.size, 2, none⟩) (.inl (.inr rfl)) (.int .u8 y)).trans (st7_keep _ w.heap.size 60 v y true 0 noS noS (.inl rfl))
  have hn := near_of HN5.out (hk.mono (fun k e => by have := HZ.out; rcases e with rfl | rfl <;> omega))
  have hs := HS5.out.far hk (fun k e => by have := HZ.out; rcases e with rfl | rfl <;> omega)
  refine bodyPost_ret (results_op rfl rfl ((HR5.out.keep (near_set w5 w2.heap.size 2 (.int .u8 y)) (by have := HZ.out; omega)).st 60 v y true 0 noS noS)) rfl ?_
  exact ⟨_, _, _, _, _, _, rfl, Pr.none_, Sl.none_, ⟨_, _, _, hs⟩, hn⟩
set_option maxHeartbeats 6400000 in
theorem op_ra {w : World} {b : Nat} {A : Option Addr} {n c : Nat} {y0 z0 y : Int} {r : List Int} (h : Sc w b A n c (60 :: y0 :: z0 :: y :: r) 0) (hd : decE 12 y0 = 0) (hy : isOrd y = false) :
    Calls Try.prog 15 #[.pointer (some ⟨b, 0, none⟩)] w (GoodOp w b r ⟨60, decN 12 y0 z0, y, false, 0, [], []⟩) := by
  obtain ⟨v, hv⟩ : ∃ v, decN 12 y0 z0 = v := ⟨_, rfl⟩
  have HA := Lib.hid (fun W A n c (h : Sc W b A n c (y0 :: z0 :: y :: r) 0) => addr_ok h hd)
  rw [hv] at HA ⊢
  have HY := Lib.hid hy
  have HT8 := Lib.hid (show (y == 8) = false by cases h8 : (y == 8) with | false => rfl | true => (have : y = 8 := by simpa using h8); subst this; cases hy)
  clear hv hd hy
  have HI := Lib.hid (fun w => is_is (h.sl.bytes 60 (by simp)) w)
  have HT := Lib.hid (fun W (hu : Up w W) => (h.up hu).tail1)
  obtain ⟨g, off, rfl, zg, hgb, hx0⟩ := h.cell (i := 0) (by have := h.sl.len; simp at this; omega)
  simp only [List.getD_cons_zero, Nat.add_zero] at hx0
  have hn : (0 : Int) < (n : Int) := by have := h.sl.len; simp at this; omega
  have s0 := h.c0
  have zb := h.lt
  have HB := Lib.hid h.lt
  rw [show isOrd 60 = true from rfl] at HI
  clear h
  go_enter Try.func15, Try.ntmps15
  go_wp2_with fail
  refine (HI.out _).mono ?_
  rintro e w1 ⟨rfl, rfl⟩
  have HR0 := Lib.hid (Op7.new w 0 0 0 false 0 noS noS w.heap.size rfl)
  have HU0 := Lib.hid ((Up.refl w).alloc (.cells #[.int .i64 0, .int .i64 0, .int .u8 0, .bool false, .int .u8 0, .slice none 0 0, .slice none 0 0] 35))
  go_wp2_with fail
  refine (HT.out _ HU0.out).mono ?_
  rintro e w2 ⟨rfl, ⟨A2, n2, c2, hs2⟩, hk2⟩
  have d0 := ((hk2.at_ g (by simp; omega) hgb).1 off).trans ((((Up.refl w).alloc (.cells #[.int .i64 0, .int .i64 0, .int .u8 0, .bool false, .int .u8 0, .slice none 0 0, .slice none 0 0] 35)).at_ g zg).1 off |>.trans hx0)
  have zg2 := cell_lt d0
  simp only at zg2
  have HR2 := Lib.hid (HR0.out.keep hk2 (by omega))
  have HS2 := Lib.hid hs2
  have HN2 := Lib.hid (show Near b w w2 from (Keep.of_up HU0.out).trans hk2)
  have z2 := hk2.size
  simp at z2
  clear hs2 hk2 s0 hx0
  go_wp2_with fail
  refine (HA.out _ _ _ _ (HS2.out.up ((Up.refl _).alloc _))).mono ?_
  rintro e w3 ⟨rfl, ⟨A3, n3, c3, hs3⟩, hk3⟩
  have HO3 := Lib.hid ((Op7.new w2 60 0 0 false 0 noS noS w2.heap.size rfl).keep hk3 (by have := HS2.out.lt; omega))
  have HR3 := Lib.hid ((HR2.out.up ((Up.refl _).alloc _)).keep hk3 (by have := HB.out; omega))
  have HS3 := Lib.hid hs3
  have HN3 := Lib.hid (show Near b w w3 from (HN2.out.up ((Up.refl _).alloc _)).trans hk3)
  have hz3 : w2.heap.size < w3.heap.size := by have := hk3.size; simp at this; omega
  have HZ := Lib.hid (show w.heap.size < w2.heap.size ∧ b < w.heap.size from ⟨by omega, HB.out⟩)
  clear hs3 hk3 d0 zg2
  obtain ⟨of, olt, o0, o1, o2, o3, o4, o5, o6⟩ := HO3.out
  obtain ⟨rf, rlt, r0, r1, r2, r3, r4, r5, r6⟩ := HR3.out
  unfold noS at o5 o6 r5 r6
  obtain ⟨g3, f3, rfl, zg3, hgb3, ht3⟩ := HS3.out.cell (i := 0) (by have := HS3.out.sl.len; simp at this; omega)
  simp only [List.getD_cons_zero, Nat.add_zero] at ht3
  have s3 := HS3.out.c0
  have zb3 := HS3.out.lt
  have q3 : (0 : Int) < (n3 : Int) := by have := HS3.out.sl.len; simp at this; omega
  have hne8 : (y == 8) = false := HT8.out
  have hg3 : g3 ≠ w2.heap.size := by have := HS3.out.lo _ rfl; have := HZ.out; simp at *; omega
  go_wp2_with fail
  refine (char_ok (HS3.out.far (near_set w3 w2.heap.size 1 (.int .i64 v)) (fun k e => by have := HZ.out; omega)) HY.out).mono ?_
  rintro e w5 ⟨rfl, ⟨A5, n5, c5, hs5⟩, hk5⟩
  have HO5 := Lib.hid ((HO3.out.s1 v).keep hk5 (by have := HZ.out; omega))
  have HR5 := Lib.hid ((HR3.out.keep (near_set w3 w2.heap.size 1 (.int .i64 v)) (by have := HZ.out; omega)).keep hk5 (by have := HZ.out; omega))
  have HS5 := Lib.hid hs5
  have HN5 := Lib.hid (show Near b w w5 from (near_of HN3.out (Keep.mono (near_set w3 w2.heap.size 1 (.int .i64 v)) (fun k e => by have := HZ.out; omega))).trans hk5)
  clear hs5 hk5 of olt o0 o1 o2 o3 o4 o5 o6 rf rlt r0 r1 r2 r3 r4 r5 r6
  obtain ⟨of, olt, o0, o1, o2, o3, o4, o5, o6⟩ := HO5.out
  obtain ⟨rf, rlt, r0, r1, r2, r3, r4, r5, r6⟩ := HR5.out
  unfold noS at o5 o6 r5 r6
  go_wp2_with fail
  have hk := (Keep.setCell (Keep.refl (fun k => k = w.heap.size ∨ k = w2.heap.size) w5) (p := ⟨w2.heap.size, 2, none⟩) (.inl (.inr rfl)) (.int .u8 y)).trans (st7_keep _ w.heap.size 60 v y false 0 noS noS (.inl rfl))
  have hn := near_of HN5.out (hk.mono (fun k e => by have := HZ.out; rcases e with rfl | rfl <;> omega))
  have hs := HS5.out.far hk (fun k e => by have := HZ.out; rcases e with rfl | rfl <;> omega)
  refine bodyPost_ret (results_op rfl rfl ((HR5.out.keep (near_set w5 w2.heap.size 2 (.int .u8 y)) (by have := HZ.out; omega)).st 60 v y false 0 noS noS)) rfl ?_
  exact ⟨_, _, _, _, _, _, rfl, Pr.none_, Sl.none_, ⟨_, _, _, hs⟩, hn⟩
set_option maxHeartbeats 6400000 in
theorem op_ra_no {w : World} {b : Nat} {A : Option Addr} {n c : Nat}  {r : List Int} (h : Sc w b A n c (60 :: r) 0) (hd : r.length < 2 ∨ decE 12 (r.getD 0 0) ≠ 0 ∨ badTail (r.drop 2) = true) :
    Calls Try.prog 15 #[.pointer (some ⟨b, 0, none⟩)] w (BadOp w b) := by
  have HA := Lib.hid (fun W A n c (h : Sc W b A n c r 0) => addr_any h hd)
  clear hd
  have HI := Lib.hid (fun w => is_is (h.sl.bytes 60 (by simp)) w)
  have HT := Lib.hid (fun W (hu : Up w W) => (h.up hu).tail1)
  obtain ⟨g, off, rfl, zg, hgb, hx0⟩ := h.cell (i := 0) (by have := h.sl.len; simp at this; omega)
  simp only [List.getD_cons_zero, Nat.add_zero] at hx0
  have hn : (0 : Int) < (n : Int) := by have := h.sl.len; simp at this; omega
  have s0 := h.c0
  have zb := h.lt
  have HB := Lib.hid h.lt
  rw [show isOrd 60 = true from rfl] at HI
  clear h
  go_enter Try.func15, Try.ntmps15
  go_wp2_with fail
  refine (HI.out _).mono ?_
  rintro e w1 ⟨rfl, rfl⟩
  have HR0 := Lib.hid (Op7.new w 0 0 0 false 0 noS noS w.heap.size rfl)
  have HU0 := Lib.hid ((Up.refl w).alloc (.cells #[.int .i64 0, .int .i64 0, .int .u8 0, .bool false, .int .u8 0, .slice none 0 0, .slice none 0 0] 35))
  go_wp2_with fail
  refine (HT.out _ HU0.out).mono ?_
  rintro e w2 ⟨rfl, ⟨A2, n2, c2, hs2⟩, hk2⟩
  have d0 := ((hk2.at_ g (by simp; omega) hgb).1 off).trans ((((Up.refl w).alloc (.cells #[.int .i64 0, .int .i64 0, .int .u8 0, .bool false, .int .u8 0, .slice none 0 0, .slice none 0 0] 35)).at_ g zg).1 off |>.trans hx0)
  have zg2 := cell_lt d0
  simp only at zg2
  have HR2 := Lib.hid (HR0.out.keep hk2 (by omega))
  have HS2 := Lib.hid hs2
  have HN2 := Lib.hid (show Near b w w2 from (Keep.of_up HU0.out).trans hk2)
  have z2 := hk2.size
  simp at z2
  clear hs2 hk2 s0 hx0
  go_wp2_with fail
  refine (HA.out _ _ _ _ (HS2.out.up ((Up.refl _).alloc _))).mono ?_
  rintro e w3 ⟨v, A3, n3, c3, l3, e3, rfl, hbad, hs3, hk3⟩
  have HO3 := Lib.hid ((Op7.new w2 60 0 0 false 0 noS noS w2.heap.size rfl).keep hk3 (by have := HS2.out.lt; omega))
  have HR3 := Lib.hid ((HR2.out.up ((Up.refl _).alloc _)).keep hk3 (by have := HB.out; omega))
  have HS3 := Lib.hid hs3
  have HN3 := Lib.hid (show Near b w w3 from (HN2.out.up ((Up.refl _).alloc _)).trans hk3)
  have hz3 : w2.heap.size < w3.heap.size := by have := hk3.size; simp at this; omega
  have HZ := Lib.hid (show w.heap.size < w2.heap.size ∧ b < w.heap.size from ⟨by omega, HB.out⟩)
  clear hs3 hk3 d0 zg2
  cases l3 with
  | nil =>
    clear hbad
    obtain ⟨of, olt, o0, o1, o2, o3, o4, o5, o6⟩ := HO3.out
    obtain ⟨rf, rlt, r0, r1, r2, r3, r4, r5, r6⟩ := HR3.out
    unfold noS at o5 o6 r5 r6
    obtain rfl : n3 = 0 := by have := HS3.out.sl.len; simpa using this.symm
    have s3 := HS3.out.c0
    have zb3 := HS3.out.lt
    go_wp2_with fail
    refine (char_no (HS3.out.far (near_set w3 w2.heap.size 1 (.int .i64 v)) (fun k e => by have := HZ.out; omega)) (.inr (.inl rfl))).mono ?_
    rintro e w5 ⟨y, A5, n5, c5, l5, e5, rfl, he5, hs5, hk5⟩
    have HO5 := Lib.hid ((HO3.out.s1 v).keep hk5 (by have := HZ.out; omega))
    have HR5 := Lib.hid ((HR3.out.keep (near_set w3 w2.heap.size 1 (.int .i64 v)) (by have := HZ.out; omega)).keep hk5 (by have := HZ.out; omega))
    have HS5 := Lib.hid hs5
    have HN5 := Lib.hid (show Near b w w5 from (near_of HN3.out (Keep.mono (near_set w3 w2.heap.size 1 (.int .i64 v)) (fun k e => by have := HZ.out; omega))).trans hk5)
    have HE5 := Lib.hid he5
    clear he5 hs5 hk5 of olt o0 o1 o2 o3 o4 o5 o6 rf rlt r0 r1 r2 r3 r4 r5 r6
    obtain ⟨of, olt, o0, o1, o2, o3, o4, o5, o6⟩ := HO5.out
    obtain ⟨rf, rlt, r0, r1, r2, r3, r4, r5, r6⟩ := HR5.out
    unfold noS at o5 o6 r5 r6
    go_wp2_with fail
    have hk := (Keep.setCell (Keep.refl (fun k => k = w.heap.size ∨ k = w2.heap.size) w5) (p := ⟨w2.heap.size, 2, none⟩) (.inl (.inr rfl)) (.int .u8 y)).trans (st7_keep _ w.heap.size 60 v y false 0 noS noS (.inl rfl))
    have hn := near_of HN5.out (hk.mono (fun k e => by have := HZ.out; rcases e with rfl | rfl <;> omega))
    have hs := HS5.out.far hk (fun k e => by have := HZ.out; rcases e with rfl | rfl <;> omega)
    refine bodyPost_ret (results_op rfl rfl ((HR5.out.keep (near_set w5 w2.heap.size 2 (.int .u8 y)) (by have := HZ.out; omega)).st 60 v y false 0 noS noS)) rfl ?_
    exact ⟨_, _, _, _, _, _, _, _, _, _, _, _, _, _, _, _, rfl, HE5.out, hs, hn⟩
  | cons t l4 =>
    by_cases ht : t = 8
    · subst ht
      have HY := Lib.hid (show e3 ≠ 0 ∨ l4 = [] ∨ isOrd (l4.getD 0 0) = true from by
        rcases hbad with h1 | h1
        · exact .inl h1
        · cases l4 with
          | nil => exact .inr (.inl rfl)
          | cons y l5 => exact .inr (.inr (by simpa [badTail] using h1)))
      clear hbad
      obtain ⟨of, olt, o0, o1, o2, o3, o4, o5, o6⟩ := HO3.out
      obtain ⟨rf, rlt, r0, r1, r2, r3, r4, r5, r6⟩ := HR3.out
      unfold noS at o5 o6 r5 r6
      obtain ⟨g3, f3, rfl, zg3, hgb3, ht3⟩ := HS3.out.cell (i := 0) (by have := HS3.out.sl.len; simp at this; omega)
      simp only [List.getD_cons_zero, Nat.add_zero] at ht3
      have s3 := HS3.out.c0
      have zb3 := HS3.out.lt
      have q3 : (0 : Int) < (n3 : Int) := by have := HS3.out.sl.len; simp at this; omega
      have hg3 : g3 ≠ w2.heap.size := by have := HS3.out.lo _ rfl; have := HZ.out; simp at *; omega
      go_wp2_with fail
      refine ((HS3.out.far (near_set w3 w2.heap.size 1 (.int .i64 v)) (fun k e => by have := HZ.out; omega)).tail1).mono ?_
      rintro e w4 ⟨rfl, ⟨A4, n4, c4, hs4⟩, hk4⟩
      have HO4 := Lib.hid ((HO3.out.s1 v).keep hk4 (by have := HZ.out; omega))
      have HR4 := Lib.hid ((HR3.out.keep (near_set w3 w2.heap.size 1 (.int .i64 v)) (by have := HZ.out; omega)).keep hk4 (by have := HZ.out; omega))
      have HS4 := Lib.hid hs4
      have HN4 := Lib.hid (show Near b w w4 from (near_of HN3.out (Keep.mono (near_set w3 w2.heap.size 1 (.int .i64 v)) (fun k e => by have := HZ.out; omega))).trans hk4)
      clear hs4 hk4 ht3 s3 q3 of olt o0 o1 o2 o3 o4 o5 o6 rf rlt r0 r1 r2 r3 r4 r5 r6
      obtain ⟨of, olt, o0, o1, o2, o3, o4, o5, o6⟩ := HO4.out
      obtain ⟨rf, rlt, r0, r1, r2, r3, r4, r5, r6⟩ := HR4.out
      unfold noS at o5 o6 r5 r6
      go_wp2_with fail
      refine (char_no (HS4.out.far (near_set w4 w2.heap.size 3 (.bool true)) (fun k e => by have := HZ.out; omega)) HY.out).mono ?_
      rintro e w5 ⟨y, A5, n5, c5, l5, e5, rfl, he5, hs5, hk5⟩
      have HO5 := Lib.hid ((HO4.out.s3 true).keep hk5 (by have := HZ.out; omega))
      have HR5 := Lib.hid ((HR4.out.keep (near_set w4 w2.heap.size 3 (.bool true)) (by have := HZ.out; omega)).keep hk5 (by have := HZ.out; omega))
      have HS5 := Lib.hid hs5
      have HN5 := Lib.hid (show Near b w w5 from (near_of HN4.out (Keep.mono (near_set w4 w2.heap.size 3 (.bool true)) (fun k e => by have := HZ.out; omega))).trans hk5)
      have HE5 := Lib.hid he5
      clear he5 hs5 hk5 of olt o0 o1 o2 o3 o4 o5 o6 rf rlt r0 r1 r2 r3 r4 r5 r6
      obtain ⟨of, olt, o0, o1, o2, o3, o4, o5, o6⟩ := HO5.out
      obtain ⟨rf, rlt, r0, r1, r2, r3, r4, r5, r6⟩ := HR5.out
      unfold noS at o5 o6 r5 r6
      go_wp2_with fail
      have hk := (Keep.setCell (Keep.refl (fun k => k = w.heap.size ∨ k = w2.heap.size) w5) (p := ⟨w2.heap.size, 2, none⟩) (.inl (.inr rfl)) (.int .u8 y)).trans (st7_keep _ w.heap.size 60 v y true 0 noS noS (.inl rfl))
      have hn := near_of HN5.out (hk.mono (fun k e => by have := HZ.out; rcases e with rfl | rfl <;> omega))
      have hs := HS5.out.far hk (fun k e => by have := HZ.out; rcases e with rfl | rfl <;> omega)
      refine bodyPost_ret (results_op rfl rfl ((HR5.out.keep (near_set w5 w2.heap.size 2 (.int .u8 y)) (by have := HZ.out; omega)).st 60 v y true 0 noS noS)) rfl ?_
      exact ⟨_, _, _, _, _, _, _, _, _, _, _, _, _, _, _, _, rfl, HE5.out, hs, hn⟩
    · have HT8 := Lib.hid (show (t == 8) = false by simpa using ht)
      have HY := Lib.hid (show e3 ≠ 0 ∨ t :: l4 = [] ∨ isOrd ((t :: l4).getD 0 0) = true from by
        rcases hbad with h1 | h1
        · exact .inl h1
        · exact .inr (.inr (by simpa [badTail, ht] using h1)))
      clear hbad ht
      obtain ⟨of, olt, o0, o1, o2, o3, o4, o5, o6⟩ := HO3.out
      obtain ⟨rf, rlt, r0, r1, r2, r3, r4, r5, r6⟩ := HR3.out
      unfold noS at o5 o6 r5 r6
      obtain ⟨g3, f3, rfl, zg3, hgb3, ht3⟩ := HS3.out.cell (i := 0) (by have := HS3.out.sl.len; simp at this; omega)
      simp only [List.getD_cons_zero, Nat.add_zero] at ht3
      have s3 := HS3.out.c0
      have zb3 := HS3.out.lt
      have q3 : (0 : Int) < (n3 : Int) := by have := HS3.out.sl.len; simp at this; omega
      have hne8 : (t == 8) = false := HT8.out
      have hg3 : g3 ≠ w2.heap.size := by have := HS3.out.lo _ rfl; have := HZ.out; simp at *; omega
      go_wp2_with fail
      refine (char_no (HS3.out.far (near_set w3 w2.heap.size 1 (.int .i64 v)) (fun k e => by have := HZ.out; omega)) HY.out).mono ?_
      rintro e w5 ⟨y, A5, n5, c5, l5, e5, rfl, he5, hs5, hk5⟩
      have HO5 := Lib.hid ((HO3.out.s1 v).keep hk5 (by have := HZ.out; omega))
      have HR5 := Lib.hid ((HR3.out.keep (near_set w3 w2.heap.size 1 (.int .i64 v)) (by have := HZ.out; omega)).keep hk5 (by have := HZ.out; omega))
      have HS5 := Lib.hid hs5
      have HN5 := Lib.hid (show Near b w w5 from (near_of HN3.out (Keep.mono (near_set w3 w2.heap.size 1 (.int .i64 v)) (fun k e => by have := HZ.out; omega))).trans hk5)
      have HE5 := Lib.hid he5
      clear he5 hs5 hk5 of olt o0 o1 o2 o3 o4 o5 o6 rf rlt r0 r1 r2 r3 r4 r5 r6
      obtain ⟨of, olt, o0, o1, o2, o3, o4, o5, o6⟩ := HO5.out
      obtain ⟨rf, rlt, r0, r1, r2, r3, r4, r5, r6⟩ := HR5.out
      unfold noS at o5 o6 r5 r6
      go_wp2_with fail
      have hk := (Keep.setCell (Keep.refl (fun k => k = w.heap.size ∨ k = w2.heap.size) w5) (p := ⟨w2.heap.size, 2, none⟩) (.inl (.inr rfl)) (.int .u8 y)).trans (st7_keep _ w.heap.size 60 v y false 0 noS noS (.inl rfl))
      have hn := near_of HN5.out (hk.mono (fun k e => by have := HZ.out; rcases e with rfl | rfl <;> omega))
      have hs := HS5.out.far hk (fun k e => by have := HZ.out; rcases e with rfl | rfl <;> omega)
      refine bodyPost_ret (results_op rfl rfl ((HR5.out.keep (near_set w5 w2.heap.size 2 (.int .u8 y)) (by have := HZ.out; omega)).st 60 v y false 0 noS noS)) rfl ?_
      exact ⟨_, _, _, _, _, _, _, _, _, _, _, _, _, _, _, _, rfl, HE5.out, hs, hn⟩
end Go.Proofs.Ytahlilogobfhcaa
