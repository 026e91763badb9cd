/-
The scanner's op: RA. No condition but the slice's own reach.
One order of bytes, plain; what the scanner's op makes of any bytes. No condition but the slice's own reach.
-/
import Derived.Test.YtamfjgioajmnpaaGreatDoorJa16
namespace Go.Proofs.YtamfjgioajmnpaaGreatDoor
open Go.RowKit
set_option linter.unusedVariables false
set_option linter.unusedSimpArgs false

/-- what stands behind an address is no code -/
def badTail : List Int → Bool
  | [] => true
  | x :: l => if x = 8 then (match l with | [] => true | y :: _ => isOrd y) else isOrd x
theorem addr_any [QP] {w : World} {b : Nat} {A : Option Addr} {n c : Nat} {q : List Int} (h : Sc w b A n c q 0) (hd : q.length < 2 ∨ decE 12 (q.getD 0 0) ≠ 0 ∨ badTail (q.drop 2) = true) :
    Calls Tryz.prog 405 #[.pointer (some ⟨b, 0, none⟩)] w fun e w' => ∃ v A' n' c' l' e1, e = .returned (.int .i64 v) ∧ (e1 ≠ 0 ∨ badTail l' = true) ∧ Sc w' b A' n' c' l' e1 ∧ Near b w w' := by
  by_cases h1 : q.length < 2 ∨ decE 12 (q.getD 0 0) ≠ 0
  · refine (addr_no h h1).mono ?_
    rintro e w' ⟨v, A', n', c', l', e1, rfl, h2, h3, h4⟩
    exact ⟨v, A', n', c', l', e1, rfl, .inl h2, h3, h4⟩
  · simp only [not_or] at h1
    obtain ⟨h1, h2⟩ := h1
    match q, h, hd, h1, h2 with
    | [], _, _, h1, _ => simp at h1
    | [_], _, _, h1, _ => simp at h1
    | x :: y :: r, h, hd, h1, h2 =>
      have h3 : decE 12 x = 0 := by simpa using h2
      have h4 : badTail r = true := by
        rcases hd with hd | hd | hd
        · exact absurd hd h1
        · exact absurd hd h2
        · exact hd
      refine (addr_ok h h3).mono ?_
      rintro e w' ⟨rfl, ⟨A', n', c', hs⟩, hk⟩
      exact ⟨_, A', n', c', r, 0, rfl, .inr h4, hs, hk⟩
set_option maxHeartbeats 6400000 in
theorem op_ra8 [QP] {w : World} {b : Nat} {A : Option Addr} {n c : Nat} {y0 z0 y : Int} {r : List Int} (h : Sc w b A n c (60 :: y0 :: z0 :: 8 :: y :: r) 0) (hd : decE 12 y0 = 0) (hy : isOrd y = false) :
    Calls Tryz.prog 383 #[.pointer (some ⟨b, 0, none⟩)] w (GoodOp w b r ⟨60, decN 12 y0 z0, y, true, 0, [], []⟩) := by
  obtain ⟨v, hv⟩ : ∃ v, decN 12 y0 z0 = v := ⟨_, rfl⟩
  have HA := Lib.hid (fun W A n c (h : Sc W b A n c (y0 :: z0 :: 8 :: y :: r) 0) => addr_ok h hd)
  rw [hv] at HA ⊢
  have HY := Lib.hid hy
  have HT8 := Lib.hid (show (y == 8) = false by cases h8 : (y == 8) with | false => rfl | true => (have : y = 8 := by simpa using h8); subst this; cases hy)
  clear hv hd hy
  have HI := Lib.hid (fun w => is_is (h.sl.bytes 60 (by simp)) w)
  have HT := Lib.hid (fun W (hu : Up w W) => (h.up hu).tail1)
  obtain ⟨g, off, rfl, zg, hgb, hx0⟩ := h.cell (i := 0) (by have := h.sl.len; simp at this; omega)
  simp only [List.getD_cons_zero, Nat.add_zero] at hx0
  have hn : (0 : Int) < (n : Int) := by have := h.sl.len; simp at this; omega
  have s0 := h.c0
  have zb := h.lt
  have HB := Lib.hid h.lt
  rw [show isOrd 60 = true from rfl] at HI
  clear h
  go_enter Tryz.func383, Tryz.ntmps383
  go_wp2_with fail
  refine (HI.out _).mono ?_
  rintro e w1 ⟨rfl, rfl⟩
  have HR0 := Lib.hid (Op7.new w 0 0 0 false 0 noS noS w.heap.size rfl)
  have HU0 := Lib.hid ((Up.refl w).alloc (.cells #[.int .i64 0, .int .i64 0, .int .u8 0, .bool false, .int .u8 0, .slice none 0 0, .slice none 0 0] 463))
  go_wp2_with fail
  refine (HT.out _ HU0.out).mono ?_
  rintro e w2 ⟨rfl, ⟨A2, n2, c2, hs2⟩, hk2⟩
  have d0 := ((hk2.at_ g (by simp; omega) hgb).1 off).trans ((((Up.refl w).alloc (.cells #[.int .i64 0, .int .i64 0, .int .u8 0, .bool false, .int .u8 0, .slice none 0 0, .slice none 0 0] 463)).at_ g zg).1 off |>.trans hx0)
  have zg2 := cell_lt d0
  simp only at zg2
  have HR2 := Lib.hid (HR0.out.keep hk2 (by omega))
  have HS2 := Lib.hid hs2
  have HN2 := Lib.hid (show Near b w w2 from (Keep.of_up HU0.out).trans hk2)
  have z2 := hk2.size
  simp at z2
  clear hs2 hk2 s0 hx0
  go_wp2_with fail
  refine (HA.out _ _ _ _ (HS2.out.up ((Up.refl _).alloc _))).mono ?_
  rintro e w3 ⟨rfl, ⟨A3, n3, c3, hs3⟩, hk3⟩
  have HO3 := Lib.hid ((Op7.new w2 60 0 0 false 0 noS noS w2.heap.size rfl).keep hk3 (by have := HS2.out.lt; omega))
  have HR3 := Lib.hid ((HR2.out.up ((Up.refl _).alloc _)).keep hk3 (by have := HB.out; omega))
  have HS3 := Lib.hid hs3
  have HN3 := Lib.hid (show Near b w w3 from (HN2.out.up ((Up.refl _).alloc _)).trans hk3)
  have hz3 : w2.heap.size < w3.heap.size := by have := hk3.size; simp at this; omega
  have HZ := Lib.hid (show w.heap.size < w2.heap.size ∧ b < w.heap.size from ⟨by omega, HB.out⟩)
  clear hs3 hk3 d0 zg2
  obtain ⟨of, olt, o0, o1, o2, o3, o4, o5, o6⟩ := HO3.out
  obtain ⟨rf, rlt, r0, r1, r2, r3, r4, r5, r6⟩ := HR3.out
  unfold noS at o5 o6 r5 r6
  obtain ⟨g3, f3, rfl, zg3, hgb3, ht3⟩ := HS3.out.cell (i := 0) (by have := HS3.out.sl.len; simp at this; omega)
  simp only [List.getD_cons_zero, Nat.add_zero] at ht3
  have s3 := HS3.out.c0
  have zb3 := HS3.out.lt
  have q3 : (0 : Int) < (n3 : Int) := by have := HS3.out.sl.len; simp at this; omega
  have hg3 : g3 ≠ w2.heap.size := by have := (HS3.out.lo _ rfl).1; have := HZ.out; simp at *; omega
  go_wp2_with fail
  refine ((HS3.out.far (near_set w3 w2.heap.size 1 (.int .i64 v)) (fun k e => by have := HZ.out; omega)).tail1).mono ?_
  rintro e w4 ⟨rfl, ⟨A4, n4, c4, hs4⟩, hk4⟩
  have HO4 := Lib.hid ((HO3.out.s1 v).keep hk4 (by have := HZ.out; omega))
  have HR4 := Lib.hid ((HR3.out.keep (near_set w3 w2.heap.size 1 (.int .i64 v)) (by have := HZ.out; omega)).keep hk4 (by have := HZ.out; omega))
  have HS4 := Lib.hid hs4
  have HN4 := Lib.hid (show Near b w w4 from (near_of HN3.out (Keep.mono (near_set w3 w2.heap.size 1 (.int .i64 v)) (fun k e => by have := HZ.out; omega))).trans hk4)
  clear hs4 hk4 ht3 s3 q3 of olt o0 o1 o2 o3 o4 o5 o6 rf rlt r0 r1 r2 r3 r4 r5 r6
  obtain ⟨of, olt, o0, o1, o2, o3, o4, o5, o6⟩ := HO4.out
  obtain ⟨rf, rlt, r0, r1, r2, r3, r4, r5, r6⟩ := HR4.out
  unfold noS at o5 o6 r5 r6
  go_wp2_with fail
  refine (char_ok (HS4.out.far (near_set w4 w2.heap.size 3 (.bool true)) (fun k e => by have := HZ.out; omega)) HY.out).mono ?_
  rintro e w5 ⟨rfl, ⟨A5, n5, c5, hs5⟩, hk5⟩
  have HO5 := Lib.hid ((HO4.out.s3 true).keep hk5 (by have := HZ.out; omega))
  have HR5 := Lib.hid ((HR4.out.keep (near_set w4 w2.heap.size 3 (.bool true)) (by have := HZ.out; omega)).keep hk5 (by have := HZ.out; omega))
  have HS5 := Lib.hid hs5
  have HN5 := Lib.hid (show Near b w w5 from (near_of HN4.out (Keep.mono (near_set w4 w2.heap.size 3 (.bool true)) (fun k e => by have := HZ.out; omega))).trans hk5)
  clear hs5 hk5 of olt o0 o1 o2 o3 o4 o5 o6 rf rlt r0 r1 r2 r3 r4 r5 r6
  obtain ⟨of, olt, o0, o1, o2, o3, o4, o5, o6⟩ := HO5.out
  obtain ⟨rf, rlt, r0, r1, r2, r3, r4, r5, r6⟩ := HR5.out
  unfold noS at o5 o6 r5 r6
  go_wp2_with fail
  have hk := (Keep.setCell (Keep.refl (fun k => k = w.heap.size ∨ k = w2.heap.size) w5) (p := ⟨w2.heap.size, 2, none⟩) (.inl (.inr rfl)) (.int .u8 y)).trans (st7_keep _ w.heap.size 60 v y true 0 noS noS (.inl rfl))
  have hn := near_of HN5.out (hk.mono (fun k e => by have := HZ.out; rcases e with rfl | rfl <;> omega))
  have hs := HS5.out.far hk (fun k e => by have := HZ.out; rcases e with rfl | rfl <;> omega)
  refine bodyPost_ret (results_op rfl rfl ((HR5.out.keep (near_set w5 w2.heap.size 2 (.int .u8 y)) (by have := HZ.out; omega)).st 60 v y true 0 noS noS)) rfl ?_
  exact ⟨_, _, _, _, _, _, rfl, Pr.none_, Sl.none_, ⟨_, _, _, hs⟩, hn⟩
set_option maxHeartbeats 6400000 in
theorem op_ra [QP] {w : World} {b : Nat} {A : Option Addr} {n c : Nat} {y0 z0 y : Int} {r : List Int} (h : Sc w b A n c (60 :: y0 :: z0 :: y :: r) 0) (hd : decE 12 y0 = 0) (hy : isOrd y = false) :
    Calls Tryz.prog 383 #[.pointer (some ⟨b, 0, none⟩)] w (GoodOp w b r ⟨60, decN 12 y0 z0, y, false, 0, [], []⟩) := by
  obtain ⟨v, hv⟩ : ∃ v, decN 12 y0 z0 = v := ⟨_, rfl⟩
  have HA := Lib.hid (fun W A n c (h : Sc W b A n c (y0 :: z0 :: y :: r) 0) => addr_ok h hd)
  rw [hv] at HA ⊢
  have HY := Lib.hid hy
  have HT8 := Lib.hid (show (y == 8) = false by cases h8 : (y == 8) with | false => rfl | true => (have : y = 8 := by simpa using h8); subst this; cases hy)
  clear hv hd hy
  have HI := Lib.hid (fun w => is_is (h.sl.bytes 60 (by simp)) w)
  have HT := Lib.hid (fun W (hu : Up w W) => (h.up hu).tail1)
  obtain ⟨g, off, rfl, zg, hgb, hx0⟩ := h.cell (i := 0) (by have := h.sl.len; simp at this; omega)
  simp only [List.getD_cons_zero, Nat.add_zero] at hx0
  have hn : (0 : Int) < (n : Int) := by have := h.sl.len; simp at this; omega
  have s0 := h.c0
  have zb := h.lt
  have HB := Lib.hid h.lt
  rw [show isOrd 60 = true from rfl] at HI
  clear h
  go_enter Tryz.func383, Tryz.ntmps383
  go_wp2_with fail
  refine (HI.out _).mono ?_
  rintro e w1 ⟨rfl, rfl⟩
  have HR0 := Lib.hid (Op7.new w 0 0 0 false 0 noS noS w.heap.size rfl)
  have HU0 := Lib.hid ((Up.refl w).alloc (.cells #[.int .i64 0, .int .i64 0, .int .u8 0, .bool false, .int .u8 0, .slice none 0 0, .slice none 0 0] 463))
  go_wp2_with fail
  refine (HT.out _ HU0.out).mono ?_
  rintro e w2 ⟨rfl, ⟨A2, n2, c2, hs2⟩, hk2⟩
  have d0 := ((hk2.at_ g (by simp; omega) hgb).1 off).trans ((((Up.refl w).alloc (.cells #[.int .i64 0, .int .i64 0, .int .u8 0, .bool false, .int .u8 0, .slice none 0 0, .slice none 0 0] 463)).at_ g zg).1 off |>.trans hx0)
  have zg2 := cell_lt d0
  simp only at zg2
  have HR2 := Lib.hid (HR0.out.keep hk2 (by omega))
  have HS2 := Lib.hid hs2
  have HN2 := Lib.hid (show Near b w w2 from (Keep.of_up HU0.out).trans hk2)
  have z2 := hk2.size
  simp at z2
  clear hs2 hk2 s0 hx0
  go_wp2_with fail
  refine (HA.out _ _ _ _ (HS2.out.up ((Up.refl _).alloc _))).mono ?_
  rintro e w3 ⟨rfl, ⟨A3, n3, c3, hs3⟩, hk3⟩
  have HO3 := Lib.hid ((Op7.new w2 60 0 0 false 0 noS noS w2.heap.size rfl).keep hk3 (by have := HS2.out.lt; omega))
  have HR3 := Lib.hid ((HR2.out.up ((Up.refl _).alloc _)).keep hk3 (by have := HB.out; omega))
  have HS3 := Lib.hid hs3
  have HN3 := Lib.hid (show Near b w w3 from (HN2.out.up ((Up.refl _).alloc _)).trans hk3)
  have hz3 : w2.heap.size < w3.heap.size := by have := hk3.size; simp at this; omega
  have HZ := Lib.hid (show w.heap.size < w2.heap.size ∧ b < w.heap.size from ⟨by omega, HB.out⟩)
  clear hs3 hk3 d0 zg2
  obtain ⟨of, olt, o0, o1, o2, o3, o4, o5, o6⟩ := HO3.out
  obtain ⟨rf, rlt, r0, r1, r2, r3, r4, r5, r6⟩ := HR3.out
  unfold noS at o5 o6 r5 r6
  obtain ⟨g3, f3, rfl, zg3, hgb3, ht3⟩ := HS3.out.cell (i := 0) (by have := HS3.out.sl.len; simp at this; omega)
  simp only [List.getD_cons_zero, Nat.add_zero] at ht3
  have s3 := HS3.out.c0
  have zb3 := HS3.out.lt
  have q3 : (0 : Int) < (n3 : Int) := by have := HS3.out.sl.len; simp at this; omega
  have hne8 : (y == 8) = false := HT8.out
  have hg3 : g3 ≠ w2.heap.size := by have := (HS3.out.lo _ rfl).1; have := HZ.out; simp at *; omega
  go_wp2_with fail
  refine (char_ok (HS3.out.far (near_set w3 w2.heap.size 1 (.int .i64 v)) (fun k e => by have := HZ.out; omega)) HY.out).mono ?_
  rintro e w5 ⟨rfl, ⟨A5, n5, c5, hs5⟩, hk5⟩
  have HO5 := Lib.hid ((HO3.out.s1 v).keep hk5 (by have := HZ.out; omega))
  have HR5 := Lib.hid ((HR3.out.keep (near_set w3 w2.heap.size 1 (.int .i64 v)) (by have := HZ.out; omega)).keep hk5 (by have := HZ.out; omega))
  have HS5 := Lib.hid hs5
  have HN5 := Lib.hid (show Near b w w5 from (near_of HN3.out (Keep.mono (near_set w3 w2.heap.size 1 (.int .i64 v)) (fun k e => by have := HZ.out; omega))).trans hk5)
  clear hs5 hk5 of olt o0 o1 o2 o3 o4 o5 o6 rf rlt r0 r1 r2 r3 r4 r5 r6
  obtain ⟨of, olt, o0, o1, o2, o3, o4, o5, o6⟩ := HO5.out
  obtain ⟨rf, rlt, r0, r1, r2, r3, r4, r5, r6⟩ := HR5.out
  unfold noS at o5 o6 r5 r6
  go_wp2_with fail
  have hk := (Keep.setCell (Keep.refl (fun k => k = w.heap.size ∨ k = w2.heap.size) w5) (p := ⟨w2.heap.size, 2, none⟩) (.inl (.inr rfl)) (.int .u8 y)).trans (st7_keep _ w.heap.size 60 v y false 0 noS noS (.inl rfl))
  have hn := near_of HN5.out (hk.mono (fun k e => by have := HZ.out; rcases e with rfl | rfl <;> omega))
  have hs := HS5.out.far hk (fun k e => by have := HZ.out; rcases e with rfl | rfl <;> omega)
  refine bodyPost_ret (results_op rfl rfl ((HR5.out.keep (near_set w5 w2.heap.size 2 (.int .u8 y)) (by have := HZ.out; omega)).st 60 v y false 0 noS noS)) rfl ?_
  exact ⟨_, _, _, _, _, _, rfl, Pr.none_, Sl.none_, ⟨_, _, _, hs⟩, hn⟩
set_option maxHeartbeats 6400000 in
theorem op_ra_no [QP] {w : World} {b : Nat} {A : Option Addr} {n c : Nat}  {r : List Int} (h : Sc w b A n c (60 :: r) 0) (hd : r.length < 2 ∨ decE 12 (r.getD 0 0) ≠ 0 ∨ badTail (r.drop 2) = true) :
    Calls Tryz.prog 383 #[.pointer (some ⟨b, 0, none⟩)] w (BadOp w b) := by
  have HA := Lib.hid (fun W A n c (h : Sc W b A n c r 0) => addr_any h hd)
  clear hd
  have HI := Lib.hid (fun w => is_is (h.sl.bytes 60 (by simp)) w)
  have HT := Lib.hid (fun W (hu : Up w W) => (h.up hu).tail1)
  obtain ⟨g, off, rfl, zg, hgb, hx0⟩ := h.cell (i := 0) (by have := h.sl.len; simp at this; omega)
  simp only [List.getD_cons_zero, Nat.add_zero] at hx0
  have hn : (0 : Int) < (n : Int) := by have := h.sl.len; simp at this; omega
  have s0 := h.c0
  have zb := h.lt
  have HB := Lib.hid h.lt
  rw [show isOrd 60 = true from rfl] at HI
  clear h
  go_enter Tryz.func383, Tryz.ntmps383
  go_wp2_with fail
  refine (HI.out _).mono ?_
  rintro e w1 ⟨rfl, rfl⟩
  have HR0 := Lib.hid (Op7.new w 0 0 0 false 0 noS noS w.heap.size rfl)
  have HU0 := Lib.hid ((Up.refl w).alloc (.cells #[.int .i64 0, .int .i64 0, .int .u8 0, .bool false, .int .u8 0, .slice none 0 0, .slice none 0 0] 463))
  go_wp2_with fail
  refine (HT.out _ HU0.out).mono ?_
  rintro e w2 ⟨rfl, ⟨A2, n2, c2, hs2⟩, hk2⟩
  have d0 := ((hk2.at_ g (by simp; omega) hgb).1 off).trans ((((Up.refl w).alloc (.cells #[.int .i64 0, .int .i64 0, .int .u8 0, .bool false, .int .u8 0, .slice none 0 0, .slice none 0 0] 463)).at_ g zg).1 off |>.trans hx0)
  have zg2 := cell_lt d0
  simp only at zg2
  have HR2 := Lib.hid (HR0.out.keep hk2 (by omega))
  have HS2 := Lib.hid hs2
  have HN2 := Lib.hid (show Near b w w2 from (Keep.of_up HU0.out).trans hk2)
  have z2 := hk2.size
  simp at z2
  clear hs2 hk2 s0 hx0
  go_wp2_with fail
  refine (HA.out _ _ _ _ (HS2.out.up ((Up.refl _).alloc _))).mono ?_
  rintro e w3 ⟨v, A3, n3, c3, l3, e3, rfl, hbad, hs3, hk3⟩
  have HO3 := Lib.hid ((Op7.new w2 60 0 0 false 0 noS noS w2.heap.size rfl).keep hk3 (by have := HS2.out.lt; omega))
  have HR3 := Lib.hid ((HR2.out.up ((Up.refl _).alloc _)).keep hk3 (by have := HB.out; omega))
  have HS3 := Lib.hid hs3
  have HN3 := Lib.hid (show Near b w w3 from (HN2.out.up ((Up.refl _).alloc _)).trans hk3)
  have hz3 : w2.heap.size < w3.heap.size := by have := hk3.size; simp at this; omega
  have HZ := Lib.hid (show w.heap.size < w2.heap.size ∧ b < w.heap.size from ⟨by omega, HB.out⟩)
  clear hs3 hk3 d0 zg2
  cases l3 with
  | nil =>
    clear hbad
    obtain ⟨of, olt, o0, o1, o2, o3, o4, o5, o6⟩ := HO3.out
    obtain ⟨rf, rlt, r0, r1, r2, r3, r4, r5, r6⟩ := HR3.out
    unfold noS at o5 o6 r5 r6
    obtain rfl : n3 = 0 := by have := HS3.out.sl.len; simpa using this.symm
    have s3 := HS3.out.c0
    have zb3 := HS3.out.lt
    go_wp2_with fail
    refine (char_no (HS3.out.far (near_set w3 w2.heap.size 1 (.int .i64 v)) (fun k e => by have := HZ.out; omega)) (.inr (.inl rfl))).mono ?_
    rintro e w5 ⟨y, A5, n5, c5, l5, e5, rfl, he5, hs5, hk5⟩
    have HO5 := Lib.hid ((HO3.out.s1 v).keep hk5 (by have := HZ.out; omega))
    have HR5 := Lib.hid ((HR3.out.keep (near_set w3 w2.heap.size 1 (.int .i64 v)) (by have := HZ.out; omega)).keep hk5 (by have := HZ.out; omega))
    have HS5 := Lib.hid hs5
    have HN5 := Lib.hid (show Near b w w5 from (near_of HN3.out (Keep.mono (near_set w3 w2.heap.size 1 (.int .i64 v)) (fun k e => by have := HZ.out; omega))).trans hk5)
    have HE5 := Lib.hid he5
    clear he5 hs5 hk5 of olt o0 o1 o2 o3 o4 o5 o6 rf rlt r0 r1 r2 r3 r4 r5 r6
    obtain ⟨of, olt, o0, o1, o2, o3, o4, o5, o6⟩ := HO5.out
    obtain ⟨rf, rlt, r0, r1, r2, r3, r4, r5, r6⟩ := HR5.out
    unfold noS at o5 o6 r5 r6
    go_wp2_with fail
    have hk := (Keep.setCell (Keep.refl (fun k => k = w.heap.size ∨ k = w2.heap.size) w5) (p := ⟨w2.heap.size, 2, none⟩) (.inl (.inr rfl)) (.int .u8 y)).trans (st7_keep _ w.heap.size 60 v y false 0 noS noS (.inl rfl))
    have hn := near_of HN5.out (hk.mono (fun k e => by have := HZ.out; rcases e with rfl | rfl <;> omega))
    have hs := HS5.out.far hk (fun k e => by have := HZ.out; rcases e with rfl | rfl <;> omega)
    refine bodyPost_ret (results_op rfl rfl ((HR5.out.keep (near_set w5 w2.heap.size 2 (.int .u8 y)) (by have := HZ.out; omega)).st 60 v y false 0 noS noS)) rfl ?_
    exact ⟨_, _, _, _, _, _, _, _, _, _, _, _, _, _, _, _, rfl, HE5.out, hs, hn⟩
  | cons t l4 =>
    by_cases ht : t = 8
    · subst ht
      have HY := Lib.hid (show e3 ≠ 0 ∨ l4 = [] ∨ isOrd (l4.getD 0 0) = true from by
        rcases hbad with h1 | h1
        · exact .inl h1
        · cases l4 with
          | nil => exact .inr (.inl rfl)
          | cons y l5 => exact .inr (.inr (by simpa [badTail] using h1)))
      clear hbad
      obtain ⟨of, olt, o0, o1, o2, o3, o4, o5, o6⟩ := HO3.out
      obtain ⟨rf, rlt, r0, r1, r2, r3, r4, r5, r6⟩ := HR3.out
      unfold noS at o5 o6 r5 r6
      obtain ⟨g3, f3, rfl, zg3, hgb3, ht3⟩ := HS3.out.cell (i := 0) (by have := HS3.out.sl.len; simp at this; omega)
      simp only [List.getD_cons_zero, Nat.add_zero] at ht3
      have s3 := HS3.out.c0
      have zb3 := HS3.out.lt
      have q3 : (0 : Int) < (n3 : Int) := by have := HS3.out.sl.len; simp at this; omega
      have hg3 : g3 ≠ w2.heap.size := by have := (HS3.out.lo _ rfl).1; have := HZ.out; simp at *; omega
      go_wp2_with fail
      refine ((HS3.out.far (near_set w3 w2.heap.size 1 (.int .i64 v)) (fun k e => by have := HZ.out; omega)).tail1).mono ?_
      rintro e w4 ⟨rfl, ⟨A4, n4, c4, hs4⟩, hk4⟩
      have HO4 := Lib.hid ((HO3.out.s1 v).keep hk4 (by have := HZ.out; omega))
      have HR4 := Lib.hid ((HR3.out.keep (near_set w3 w2.heap.size 1 (.int .i64 v)) (by have := HZ.out; omega)).keep hk4 (by have := HZ.out; omega))
      have HS4 := Lib.hid hs4
      have HN4 := Lib.hid (show Near b w w4 from (near_of HN3.out (Keep.mono (near_set w3 w2.heap.size 1 (.int .i64 v)) (fun k e => by have := HZ.out; omega))).trans hk4)
      clear hs4 hk4 ht3 s3 q3 of olt o0 o1 o2 o3 o4 o5 o6 rf rlt r0 r1 r2 r3 r4 r5 r6
      obtain ⟨of, olt, o0, o1, o2, o3, o4, o5, o6⟩ := HO4.out
      obtain ⟨rf, rlt, r0, r1, r2, r3, r4, r5, r6⟩ := HR4.out
      unfold noS at o5 o6 r5 r6
      go_wp2_with fail
      refine (char_no (HS4.out.far (near_set w4 w2.heap.size 3 (.bool true)) (fun k e => by have := HZ.out; omega)) HY.out).mono ?_
      rintro e w5 ⟨y, A5, n5, c5, l5, e5, rfl, he5, hs5, hk5⟩
      have HO5 := Lib.hid ((HO4.out.s3 true).keep hk5 (by have := HZ.out; omega))
      have HR5 := Lib.hid ((HR4.out.keep (near_set w4 w2.heap.size 3 (.bool true)) (by have := HZ.out; omega)).keep hk5 (by have := HZ.out; omega))
      have HS5 := Lib.hid hs5
      have HN5 := Lib.hid (show Near b w w5 from (near_of HN4.out (Keep.mono (near_set w4 w2.heap.size 3 (.bool true)) (fun k e => by have := HZ.out; omega))).trans hk5)
      have HE5 := Lib.hid he5
      clear he5 hs5 hk5 of olt o0 o1 o2 o3 o4 o5 o6 rf rlt r0 r1 r2 r3 r4 r5 r6
      obtain ⟨of, olt, o0, o1, o2, o3, o4, o5, o6⟩ := HO5.out
      obtain ⟨rf, rlt, r0, r1, r2, r3, r4, r5, r6⟩ := HR5.out
      unfold noS at o5 o6 r5 r6
      go_wp2_with fail
      have hk := (Keep.setCell (Keep.refl (fun k => k = w.heap.size ∨ k = w2.heap.size) w5) (p := ⟨w2.heap.size, 2, none⟩) (.inl (.inr rfl)) (.int .u8 y)).trans (st7_keep _ w.heap.size 60 v y true 0 noS noS (.inl rfl))
      have hn := near_of HN5.out (hk.mono (fun k e => by have := HZ.out; rcases e with rfl | rfl <;> omega))
      have hs := HS5.out.far hk (fun k e => by have := HZ.out; rcases e with rfl | rfl <;> omega)
      refine bodyPost_ret (results_op rfl rfl ((HR5.out.keep (near_set w5 w2.heap.size 2 (.int .u8 y)) (by have := HZ.out; omega)).st 60 v y true 0 noS noS)) rfl ?_
      exact ⟨_, _, _, _, _, _, _, _, _, _, _, _, _, _, _, _, rfl, HE5.out, hs, hn⟩
    · have HT8 := Lib.hid (show (t == 8) = false by simpa using ht)
      have HY := Lib.hid (show e3 ≠ 0 ∨ t :: l4 = [] ∨ isOrd ((t :: l4).getD 0 0) = true from by
        rcases hbad with h1 | h1
        · exact .inl h1
        · exact .inr (.inr (by simpa [badTail, ht] using h1)))
      clear hbad ht
      obtain ⟨of, olt, o0, o1, o2, o3, o4, o5, o6⟩ := HO3.out
      obtain ⟨rf, rlt, r0, r1, r2, r3, r4, r5, r6⟩ := HR3.out
      unfold noS at o5 o6 r5 r6
      obtain ⟨g3, f3, rfl, zg3, hgb3, ht3⟩ := HS3.out.cell (i := 0) (by have := HS3.out.sl.len; simp at this; omega)
      simp only [List.getD_cons_zero, Nat.add_zero] at ht3
      have s3 := HS3.out.c0
      have zb3 := HS3.out.lt
      have q3 : (0 : Int) < (n3 : Int) := by have := HS3.out.sl.len; simp at this; omega
      have hne8 : (t == 8) = false := HT8.out
      have hg3 : g3 ≠ w2.heap.size := by have := (HS3.out.lo _ rfl).1; have := HZ.out; simp at *; omega
      go_wp2_with fail
      refine (char_no (HS3.out.far (near_set w3 w2.heap.size 1 (.int .i64 v)) (fun k e => by have := HZ.out; omega)) HY.out).mono ?_
      rintro e w5 ⟨y, A5, n5, c5, l5, e5, rfl, he5, hs5, hk5⟩
      have HO5 := Lib.hid ((HO3.out.s1 v).keep hk5 (by have := HZ.out; omega))
      have HR5 := Lib.hid ((HR3.out.keep (near_set w3 w2.heap.size 1 (.int .i64 v)) (by have := HZ.out; omega)).keep hk5 (by have := HZ.out; omega))
      have HS5 := Lib.hid hs5
      have HN5 := Lib.hid (show Near b w w5 from (near_of HN3.out (Keep.mono (near_set w3 w2.heap.size 1 (.int .i64 v)) (fun k e => by have := HZ.out; omega))).trans hk5)
      have HE5 := Lib.hid he5
      clear he5 hs5 hk5 of olt o0 o1 o2 o3 o4 o5 o6 rf rlt r0 r1 r2 r3 r4 r5 r6
      obtain ⟨of, olt, o0, o1, o2, o3, o4, o5, o6⟩ := HO5.out
      obtain ⟨rf, rlt, r0, r1, r2, r3, r4, r5, r6⟩ := HR5.out
      unfold noS at o5 o6 r5 r6
      go_wp2_with fail
      have hk := (Keep.setCell (Keep.refl (fun k => k = w.heap.size ∨ k = w2.heap.size) w5) (p := ⟨w2.heap.size, 2, none⟩) (.inl (.inr rfl)) (.int .u8 y)).trans (st7_keep _ w.heap.size 60 v y false 0 noS noS (.inl rfl))
      have hn := near_of HN5.out (hk.mono (fun k e => by have := HZ.out; rcases e with rfl | rfl <;> omega))
      have hs := HS5.out.far hk (fun k e => by have := HZ.out; rcases e with rfl | rfl <;> omega)
      refine bodyPost_ret (results_op rfl rfl ((HR5.out.keep (near_set w5 w2.heap.size 2 (.int .u8 y)) (by have := HZ.out; omega)).st 60 v y false 0 noS noS)) rfl ?_
      exact ⟨_, _, _, _, _, _, _, _, _, _, _, _, _, _, _, _, rfl, HE5.out, hs, hn⟩
end Go.Proofs.YtamfjgioajmnpaaGreatDoor
namespace Go.Proofs.YtamfjgioajmnpaaGreatDoor
open Go.RowKit
set_option linter.unusedVariables false
set_option linter.unusedSimpArgs false

/-- the order that begins there, and what is left -/
def one : List Int → Option (OpP × List Int)
  | [] => none
  | x :: q =>
    if isOrd x = false then some (⟨0, 0, 0, false, 0, [], (x :: q).take (txtN (x :: q))⟩, (x :: q).drop (txtN (x :: q)))
    else if x = 17 ∨ x = 18 then (if q.length < 2 ∨ decE 12 (q.getD 0 0) ≠ 0 then none else some (⟨x, decN 12 (q.getD 0 0) (q.getD 1 0), 0, false, 0, [], []⟩, q.drop 2))
    else if x = 60 then (if q.length < 2 ∨ decE 12 (q.getD 0 0) ≠ 0 ∨ badTail (q.drop 2) = true then none
      else if q.getD 2 0 = 8 then some (⟨60, decN 12 (q.getD 0 0) (q.getD 1 0), q.getD 3 0, true, 0, [], []⟩, q.drop 4)
      else some (⟨60, decN 12 (q.getD 0 0) (q.getD 1 0), q.getD 2 0, false, 0, [], []⟩, q.drop 3))
    else if x = 29 then (if q = [] then none else some (⟨29, 0, 0, false, q.getD 0 0, [], []⟩, q.drop 1))
    else if x = 40 then (if q.length < 2 ∨ rightB (q.getD 0 0) (q.getD 1 0) = false then none else some (⟨40, 0, 0, false, 0, [(q.getD 0 0, q.getD 1 0)], []⟩, q.drop 2))
    else if x = 41 ∨ x = 44 then (if q.length < 1 + 2 * numP q ∨ goodP q = false then none else some (⟨x, 0, 0, false, 0, pairs q (numP q), []⟩, q.drop (1 + 2 * numP q)))
    else if x = 8 then (if q = [] ∨ isOrd (q.getD 0 0) = true then none else some (⟨8, 0, q.getD 0 0, false, 0, [], []⟩, q.drop 1))
    else some (⟨x, 0, 0, false, 0, [], []⟩, q)
theorem ord_or {x : Int} (h : isOrd x = true) : x = 5 ∨ x = 8 ∨ x = 17 ∨ x = 18 ∨ x = 19 ∨ x = 29 ∨ x = 40 ∨ x = 41 ∨ x = 44 ∨ x = 60 := by
  unfold isOrd at h
  simp only [Bool.or_eq_true, beq_iff_eq] at h
  omega
def AnyOp [QP] (w : World) (b : Nat) (l : List Int) (e : Ending) (w' : World) : Prop :=
  match one l with
  | some (o, r) => GoodOp w b r o e w'
  | none => BadOp w b e w'
theorem AnyOp.good [QP] {w : World} {b : Nat} {l r : List Int} {o : OpP} (h : one l = some (o, r)) : AnyOp w b l = GoodOp w b r o := by
  funext e w'
  unfold AnyOp
  rw [h]
theorem AnyOp.bad [QP] {w : World} {b : Nat} {l : List Int} (h : one l = none) : AnyOp w b l = BadOp w b := by
  funext e w'
  unfold AnyOp
  rw [h]
theorem two_or {q : List Int} : q.length < 2 ∨ ∃ y z r, q = y :: z :: r := by
  match q with
  | [] => exact .inl (by simp)
  | [_] => exact .inl (by simp)
  | y :: z :: r => exact .inr ⟨y, z, r, rfl⟩
theorem op_is [QP] {w : World} {b : Nat} {A : Option Addr} {n c : Nat} {l : List Int} (h : Sc w b A n c l 0) (hl : l ≠ []) :
    Calls Tryz.prog 383 #[.pointer (some ⟨b, 0, none⟩)] w (AnyOp w b l) := by
  match l, h, hl with
  | x :: q, h, _ =>
    cases ho : isOrd x
    · rw [AnyOp.good (show one (x :: q) = some _ by unfold one; simp only [ho]; rfl)]
      exact op_text h ho
    · have hn : ¬ isOrd x = false := by rw [ho]; simp
      rcases ord_or ho with rfl | rfl | rfl | rfl | rfl | rfl | rfl | rfl | rfl | rfl
      · rw [AnyOp.good (show one (5 :: q) = some _ by unfold one; simp only [hn]; rfl)]
        exact op_one5 h
      · by_cases hd : q = [] ∨ isOrd (q.getD 0 0) = true
        · rw [AnyOp.bad (show one (8 :: q) = none by unfold one; simp only [hn, hd]; rfl)]
          exact op_ge_no h hd
        · rw [AnyOp.good (show one (8 :: q) = some (⟨8, 0, q.getD 0 0, false, 0, [], []⟩, q.drop 1) by unfold one; simp only [hn, hd]; rfl)]
          match q, h, hd with
          | [], h, hd => simp at hd
          | y :: r, h, hd => exact op_ge h (by simpa using hd)
      · by_cases hd : q.length < 2 ∨ decE 12 (q.getD 0 0) ≠ 0
        · rw [AnyOp.bad (show one (17 :: q) = none by unfold one; simp only [hn, hd]; rfl)]
          exact op_addr17_no h hd
        · rw [AnyOp.good (show one (17 :: q) = some (⟨17, decN 12 (q.getD 0 0) (q.getD 1 0), 0, false, 0, [], []⟩, q.drop 2) by unfold one; simp only [hn, hd]; rfl)]
          rcases two_or (q := q) with h2 | ⟨y, z, r, rfl⟩
          · exact absurd (.inl h2) hd
          · exact op_addr17 h (by simp at hd; exact hd)
      · by_cases hd : q.length < 2 ∨ decE 12 (q.getD 0 0) ≠ 0
        · rw [AnyOp.bad (show one (18 :: q) = none by unfold one; simp only [hn, hd]; rfl)]
          exact op_addr18_no h hd
        · rw [AnyOp.good (show one (18 :: q) = some (⟨18, decN 12 (q.getD 0 0) (q.getD 1 0), 0, false, 0, [], []⟩, q.drop 2) by unfold one; simp only [hn, hd]; rfl)]
          rcases two_or (q := q) with h2 | ⟨y, z, r, rfl⟩
          · exact absurd (.inl h2) hd
          · exact op_addr18 h (by simp at hd; exact hd)
      · rw [AnyOp.good (show one (19 :: q) = some _ by unfold one; simp only [hn]; rfl)]
        exact op_one19 h
      · by_cases hd : q = []
        · rw [AnyOp.bad (show one (29 :: q) = none by unfold one; simp only [hn, hd]; rfl)]
          exact op_sf_no h hd
        · rw [AnyOp.good (show one (29 :: q) = some (⟨29, 0, 0, false, q.getD 0 0, [], []⟩, q.drop 1) by unfold one; simp only [hn, hd]; rfl)]
          match q, h, hd with
          | [], h, hd => simp at hd
          | y :: r, h, hd => exact op_sf h
      · by_cases hd : q.length < 2 ∨ rightB (q.getD 0 0) (q.getD 1 0) = false
        · rw [AnyOp.bad (show one (40 :: q) = none by unfold one; simp only [hn, hd]; rfl)]
          exact op_sa_no h hd
        · rw [AnyOp.good (show one (40 :: q) = some (⟨40, 0, 0, false, 0, [(q.getD 0 0, q.getD 1 0)], []⟩, q.drop 2) by unfold one; simp only [hn, hd]; rfl)]
          rcases two_or (q := q) with h2 | ⟨y, z, r, rfl⟩
          · exact absurd (.inl h2) hd
          · exact op_sa h (by simp at hd; exact hd)
      · by_cases hd : q.length < 1 + 2 * numP q ∨ goodP q = false
        · rw [AnyOp.bad (show one (41 :: q) = none by unfold one; simp only [hn, hd]; rfl)]
          exact op_prs41_no h hd
        · rw [AnyOp.good (show one (41 :: q) = some (⟨41, 0, 0, false, 0, pairs q (numP q), []⟩, q.drop (1 + 2 * numP q)) by unfold one; simp only [hn, hd]; rfl)]
          simp only [not_or, Nat.not_lt, Bool.not_eq_false] at hd
          exact op_prs41 h hd.1 hd.2 rfl
      · by_cases hd : q.length < 1 + 2 * numP q ∨ goodP q = false
        · rw [AnyOp.bad (show one (44 :: q) = none by unfold one; simp only [hn, hd]; rfl)]
          exact op_prs44_no h hd
        · rw [AnyOp.good (show one (44 :: q) = some (⟨44, 0, 0, false, 0, pairs q (numP q), []⟩, q.drop (1 + 2 * numP q)) by unfold one; simp only [hn, hd]; rfl)]
          simp only [not_or, Nat.not_lt, Bool.not_eq_false] at hd
          exact op_prs44 h hd.1 hd.2 rfl
      · by_cases hd : q.length < 2 ∨ decE 12 (q.getD 0 0) ≠ 0 ∨ badTail (q.drop 2) = true
        · rw [AnyOp.bad (show one (60 :: q) = none by unfold one; simp only [hn, hd]; rfl)]
          exact op_ra_no h hd
        · by_cases h8 : q.getD 2 0 = 8
          · rw [AnyOp.good (show one (60 :: q) = some (⟨60, decN 12 (q.getD 0 0) (q.getD 1 0), q.getD 3 0, true, 0, [], []⟩, q.drop 4) by unfold one; simp only [hn, hd, h8]; rfl)]
            simp only [not_or] at hd
            obtain ⟨d1, d2, d3⟩ := hd
            match q, h, d1, d2, d3, h8 with
            | y :: z :: t :: c :: r, h, d1, d2, d3, h8 =>
              have ht : t = 8 := h8
              subst ht
              exact op_ra8 h (by simpa using d2) (by simpa [badTail] using d3)
            | [], _, d1, _, _, _ => simp at d1
            | [_], _, d1, _, _, _ => simp at d1
            | [_, _], _, _, _, d3, _ => simp [badTail] at d3
            | [_, _, t], _, _, _, d3, h8 =>
              have ht : t = 8 := h8
              subst ht
              simp [badTail] at d3
          · rw [AnyOp.good (show one (60 :: q) = some (⟨60, decN 12 (q.getD 0 0) (q.getD 1 0), q.getD 2 0, false, 0, [], []⟩, q.drop 3) by unfold one; simp only [hn, hd, h8]; rfl)]
            simp only [not_or] at hd
            obtain ⟨d1, d2, d3⟩ := hd
            match q, h, d1, d2, d3, h8 with
            | y :: z :: t :: r, h, d1, d2, d3, h8 =>
              have ht : ¬ t = 8 := h8
              exact op_ra h (by simpa using d2) (by simpa [badTail, ht] using d3)
            | [], _, d1, _, _, _ => simp at d1
            | [_], _, d1, _, _, _ => simp at d1
            | [_, _], _, _, _, d3, _ => simp [badTail] at d3
end Go.Proofs.YtamfjgioajmnpaaGreatDoor
