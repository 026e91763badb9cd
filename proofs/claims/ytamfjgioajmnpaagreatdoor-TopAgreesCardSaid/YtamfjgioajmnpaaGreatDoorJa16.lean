/-
The scanner's op: IC and PT, SF, RA, a text. No condition but the slice's own reach.
-/
import Derived.Test.YtamfjgioajmnpaaGreatDoorJa15
namespace Go.Proofs.YtamfjgioajmnpaaGreatDoor
open Go.RowKit
set_option linter.unusedVariables false
set_option linter.unusedSimpArgs false

set_option maxHeartbeats 3200000 in
theorem op_one5 [QP] {w : World} {b : Nat} {A : Option Addr} {n c : Nat}  {r : List Int} (h : Sc w b A n c (5 :: r) 0) :
    Calls Tryz.prog 383 #[.pointer (some ⟨b, 0, none⟩)] w (GoodOp w b r ⟨5, 0, 0, false, 0, [], []⟩) := by
  have HI := Lib.hid (fun w => is_is (h.sl.bytes 5 (by simp)) w)
  have HT := Lib.hid (fun W (hu : Up w W) => (h.up hu).tail1)
  obtain ⟨g, off, rfl, zg, hgb, hx0⟩ := h.cell (i := 0) (by have := h.sl.len; simp at this; omega)
  simp only [List.getD_cons_zero, Nat.add_zero] at hx0
  have hn : (0 : Int) < (n : Int) := by have := h.sl.len; simp at this; omega
  have s0 := h.c0
  have zb := h.lt
  have HB := Lib.hid h.lt
  rw [show isOrd 5 = true from rfl] at HI
  clear h
  go_enter Tryz.func383, Tryz.ntmps383
  go_wp2_with fail
  refine (HI.out _).mono ?_
  rintro e w1 ⟨rfl, rfl⟩
  have HR0 := Lib.hid (Op7.new w 0 0 0 false 0 noS noS w.heap.size rfl)
  have HU0 := Lib.hid ((Up.refl w).alloc (.cells #[.int .i64 0, .int .i64 0, .int .u8 0, .bool false, .int .u8 0, .slice none 0 0, .slice none 0 0] 463))
  go_wp2_with fail
  refine (HT.out _ HU0.out).mono ?_
  rintro e w2 ⟨rfl, ⟨A2, n2, c2, hs2⟩, hk2⟩
  have d0 := ((hk2.at_ g (by simp; omega) hgb).1 off).trans ((((Up.refl w).alloc (.cells #[.int .i64 0, .int .i64 0, .int .u8 0, .bool false, .int .u8 0, .slice none 0 0, .slice none 0 0] 463)).at_ g zg).1 off |>.trans hx0)
  have zg2 := cell_lt d0
  simp only at zg2
  have HR2 := Lib.hid (HR0.out.keep hk2 (by omega))
  have HS2 := Lib.hid hs2
  have HN2 := Lib.hid (show Near b w w2 from (Keep.of_up HU0.out).trans hk2)
  have z2 := hk2.size
  simp at z2
  clear hs2 hk2 s0 hx0
  have HRZ := Lib.hid (HR2.out.up ((Up.refl w2).alloc (.cells #[.int .i64 5, .int .i64 0, .int .u8 0, .bool false, .int .u8 0, .slice none 0 0, .slice none 0 0] 463)))
  obtain ⟨rf, rlt, r0, r1, r2, r3, r4, r5, r6⟩ := HRZ.out
  unfold noS at r5 r6
  go_wp2_with fail
  have hk := st7_keep (w2.alloc (.cells #[.int .i64 5, .int .i64 0, .int .u8 0, .bool false, .int .u8 0, .slice none 0 0, .slice none 0 0] 463)) w.heap.size 5 0 0 false 0 noS noS (E := fun k => k = w.heap.size) rfl
  have hn := near_of (HN2.out.up ((Up.refl _).alloc _)) (hk.mono (fun k e => by subst e; exact Nat.le_refl _))
  have hs := (HS2.out.up ((Up.refl _).alloc _)).far hk (fun k e => by have := HB.out; omega)
  refine bodyPost_ret (results_op rfl rfl (HRZ.out.st 5 0 0 false 0 noS noS)) rfl ?_
  exact ⟨_, _, _, _, _, _, rfl, Pr.none_, Sl.none_, ⟨_, _, _, hs⟩, hn⟩
set_option maxHeartbeats 3200000 in
theorem op_one19 [QP] {w : World} {b : Nat} {A : Option Addr} {n c : Nat}  {r : List Int} (h : Sc w b A n c (19 :: r) 0) :
    Calls Tryz.prog 383 #[.pointer (some ⟨b, 0, none⟩)] w (GoodOp w b r ⟨19, 0, 0, false, 0, [], []⟩) := by
  have HI := Lib.hid (fun w => is_is (h.sl.bytes 19 (by simp)) w)
  have HT := Lib.hid (fun W (hu : Up w W) => (h.up hu).tail1)
  obtain ⟨g, off, rfl, zg, hgb, hx0⟩ := h.cell (i := 0) (by have := h.sl.len; simp at this; omega)
  simp only [List.getD_cons_zero, Nat.add_zero] at hx0
  have hn : (0 : Int) < (n : Int) := by have := h.sl.len; simp at this; omega
  have s0 := h.c0
  have zb := h.lt
  have HB := Lib.hid h.lt
  rw [show isOrd 19 = true from rfl] at HI
  clear h
  go_enter Tryz.func383, Tryz.ntmps383
  go_wp2_with fail
  refine (HI.out _).mono ?_
  rintro e w1 ⟨rfl, rfl⟩
  have HR0 := Lib.hid (Op7.new w 0 0 0 false 0 noS noS w.heap.size rfl)
  have HU0 := Lib.hid ((Up.refl w).alloc (.cells #[.int .i64 0, .int .i64 0, .int .u8 0, .bool false, .int .u8 0, .slice none 0 0, .slice none 0 0] 463))
  go_wp2_with fail
  refine (HT.out _ HU0.out).mono ?_
  rintro e w2 ⟨rfl, ⟨A2, n2, c2, hs2⟩, hk2⟩
  have d0 := ((hk2.at_ g (by simp; omega) hgb).1 off).trans ((((Up.refl w).alloc (.cells #[.int .i64 0, .int .i64 0, .int .u8 0, .bool false, .int .u8 0, .slice none 0 0, .slice none 0 0] 463)).at_ g zg).1 off |>.trans hx0)
  have zg2 := cell_lt d0
  simp only at zg2
  have HR2 := Lib.hid (HR0.out.keep hk2 (by omega))
  have HS2 := Lib.hid hs2
  have HN2 := Lib.hid (show Near b w w2 from (Keep.of_up HU0.out).trans hk2)
  have z2 := hk2.size
  simp at z2
  clear hs2 hk2 s0 hx0
  have HRZ := Lib.hid (HR2.out.up ((Up.refl w2).alloc (.cells #[.int .i64 19, .int .i64 0, .int .u8 0, .bool false, .int .u8 0, .slice none 0 0, .slice none 0 0] 463)))
  obtain ⟨rf, rlt, r0, r1, r2, r3, r4, r5, r6⟩ := HRZ.out
  unfold noS at r5 r6
  go_wp2_with fail
  have hk := st7_keep (w2.alloc (.cells #[.int .i64 19, .int .i64 0, .int .u8 0, .bool false, .int .u8 0, .slice none 0 0, .slice none 0 0] 463)) w.heap.size 19 0 0 false 0 noS noS (E := fun k => k = w.heap.size) rfl
  have hn := near_of (HN2.out.up ((Up.refl _).alloc _)) (hk.mono (fun k e => by subst e; exact Nat.le_refl _))
  have hs := (HS2.out.up ((Up.refl _).alloc _)).far hk (fun k e => by have := HB.out; omega)
  refine bodyPost_ret (results_op rfl rfl (HRZ.out.st 19 0 0 false 0 noS noS)) rfl ?_
  exact ⟨_, _, _, _, _, _, rfl, Pr.none_, Sl.none_, ⟨_, _, _, hs⟩, hn⟩
set_option maxHeartbeats 3200000 in
theorem op_sf [QP] {w : World} {b : Nat} {A : Option Addr} {n c : Nat} {y : Int} {r : List Int} (h : Sc w b A n c (29 :: y :: r) 0) :
    Calls Tryz.prog 383 #[.pointer (some ⟨b, 0, none⟩)] w (GoodOp w b r ⟨29, 0, 0, false, y, [], []⟩) := by
  have HI := Lib.hid (fun w => is_is (h.sl.bytes 29 (by simp)) w)
  have HT := Lib.hid (fun W (hu : Up w W) => (h.up hu).tail1)
  obtain ⟨g, off, rfl, zg, hgb, hx0⟩ := h.cell (i := 0) (by have := h.sl.len; simp at this; omega)
  simp only [List.getD_cons_zero, Nat.add_zero] at hx0
  have hn : (0 : Int) < (n : Int) := by have := h.sl.len; simp at this; omega
  have s0 := h.c0
  have zb := h.lt
  have HB := Lib.hid h.lt
  rw [show isOrd 29 = true from rfl] at HI
  clear h
  go_enter Tryz.func383, Tryz.ntmps383
  go_wp2_with fail
  refine (HI.out _).mono ?_
  rintro e w1 ⟨rfl, rfl⟩
  have HR0 := Lib.hid (Op7.new w 0 0 0 false 0 noS noS w.heap.size rfl)
  have HU0 := Lib.hid ((Up.refl w).alloc (.cells #[.int .i64 0, .int .i64 0, .int .u8 0, .bool false, .int .u8 0, .slice none 0 0, .slice none 0 0] 463))
  go_wp2_with fail
  refine (HT.out _ HU0.out).mono ?_
  rintro e w2 ⟨rfl, ⟨A2, n2, c2, hs2⟩, hk2⟩
  have d0 := ((hk2.at_ g (by simp; omega) hgb).1 off).trans ((((Up.refl w).alloc (.cells #[.int .i64 0, .int .i64 0, .int .u8 0, .bool false, .int .u8 0, .slice none 0 0, .slice none 0 0] 463)).at_ g zg).1 off |>.trans hx0)
  have zg2 := cell_lt d0
  simp only at zg2
  have HR2 := Lib.hid (HR0.out.keep hk2 (by omega))
  have HS2 := Lib.hid hs2
  have HN2 := Lib.hid (show Near b w w2 from (Keep.of_up HU0.out).trans hk2)
  have z2 := hk2.size
  simp at z2
  clear hs2 hk2 s0 hx0
  have HA := Lib.hid (fun W A n c (h : Sc W b A n c (y :: r) 0) => h.tail1)
  obtain ⟨gy, oy, rfl, zy, hyb, hy0⟩ := HS2.out.cell (i := 0) (by have := HS2.out.sl.len; simp at this; omega)
  simp only [List.getD_cons_zero, Nat.add_zero] at hy0
  go_wp2_with fail
  refine (HA.out _ _ _ _ (HS2.out.up ((Up.refl _).alloc _))).mono ?_
  rintro e w3 ⟨rfl, ⟨A3, n3, c3, hs3⟩, hk3⟩
  have HO3 := Lib.hid ((Op7.new w2 29 0 0 false 0 noS noS w2.heap.size rfl).keep hk3 (by have := HS2.out.lt; omega))
  have HR3 := Lib.hid ((HR2.out.up ((Up.refl _).alloc _)).keep hk3 (by have := HB.out; omega))
  have HS3 := Lib.hid hs3
  have HN3 := Lib.hid (show Near b w w3 from (HN2.out.up ((Up.refl _).alloc _)).trans hk3)
  have hy3 := ((hk3.at_ gy (by simp; omega) hyb).1 oy).trans ((((Up.refl w2).alloc (.cells #[.int .i64 29, .int .i64 0, .int .u8 0, .bool false, .int .u8 0, .slice none 0 0, .slice none 0 0] 463)).at_ gy zy).1 oy |>.trans hy0)
  have zy3 := cell_lt hy3
  simp only at zy3
  clear hs3 hk3 d0 zg2 hy0
  obtain ⟨of, olt, o0, o1, o2, o3, o4, o5, o6⟩ := HO3.out
  obtain ⟨rf, rlt, r0, r1, r2, r3, r4, r5, r6⟩ := HR3.out
  unfold noS at o5 o6 r5 r6
  go_wp2_with fail
  have hk := (Keep.setCell (Keep.refl (fun k => k = w.heap.size ∨ k = w2.heap.size) w3) (p := ⟨w2.heap.size, 4, none⟩) (.inl (.inr rfl)) (.int .u8 y)).trans (st7_keep _ w.heap.size 29 0 0 false y noS noS (.inl rfl))
  have hn := near_of HN3.out (hk.mono (fun k e => by rcases e with rfl | rfl <;> omega))
  have hs := HS3.out.far hk (fun k e => by have := HB.out; rcases e with rfl | rfl <;> omega)
  refine bodyPost_ret (results_op rfl rfl ((HR3.out.keep (near_set w3 w2.heap.size 4 (.int .u8 y)) (by omega)).st 29 0 0 false y noS noS)) rfl ?_
  exact ⟨_, _, _, _, _, _, rfl, Pr.none_, Sl.none_, ⟨_, _, _, hs⟩, hn⟩
set_option maxHeartbeats 3200000 in
theorem op_sf_no [QP] {w : World} {b : Nat} {A : Option Addr} {n c : Nat}  {r : List Int} (h : Sc w b A n c (29 :: r) 0) (hr : r = []) :
    Calls Tryz.prog 383 #[.pointer (some ⟨b, 0, none⟩)] w (BadOp w b) := by
  subst hr
  have HI := Lib.hid (fun w => is_is (h.sl.bytes 29 (by simp)) w)
  have HT := Lib.hid (fun W (hu : Up w W) => (h.up hu).tail1)
  obtain ⟨g, off, rfl, zg, hgb, hx0⟩ := h.cell (i := 0) (by have := h.sl.len; simp at this; omega)
  simp only [List.getD_cons_zero, Nat.add_zero] at hx0
  have hn : (0 : Int) < (n : Int) := by have := h.sl.len; simp at this; omega
  have s0 := h.c0
  have zb := h.lt
  have HB := Lib.hid h.lt
  rw [show isOrd 29 = true from rfl] at HI
  clear h
  go_enter Tryz.func383, Tryz.ntmps383
  go_wp2_with fail
  refine (HI.out _).mono ?_
  rintro e w1 ⟨rfl, rfl⟩
  have HR0 := Lib.hid (Op7.new w 0 0 0 false 0 noS noS w.heap.size rfl)
  have HU0 := Lib.hid ((Up.refl w).alloc (.cells #[.int .i64 0, .int .i64 0, .int .u8 0, .bool false, .int .u8 0, .slice none 0 0, .slice none 0 0] 463))
  go_wp2_with fail
  refine (HT.out _ HU0.out).mono ?_
  rintro e w2 ⟨rfl, ⟨A2, n2, c2, hs2⟩, hk2⟩
  have d0 := ((hk2.at_ g (by simp; omega) hgb).1 off).trans ((((Up.refl w).alloc (.cells #[.int .i64 0, .int .i64 0, .int .u8 0, .bool false, .int .u8 0, .slice none 0 0, .slice none 0 0] 463)).at_ g zg).1 off |>.trans hx0)
  have zg2 := cell_lt d0
  simp only at zg2
  have HR2 := Lib.hid (HR0.out.keep hk2 (by omega))
  have HS2 := Lib.hid hs2
  have HN2 := Lib.hid (show Near b w w2 from (Keep.of_up HU0.out).trans hk2)
  have z2 := hk2.size
  simp at z2
  clear hs2 hk2 s0 hx0
  have h0 : n2 = 0 := by have := HS2.out.sl.len; simpa using this.symm
  subst h0
  have HA := Lib.hid (fun W A c (h : Sc W b A 0 c [] 0) => take_no (k := 1) h (by omega) (by omega))
  rw [show errs 0 2 = 2 from rfl] at HA
  go_wp2_with fail
  refine (HA.out _ _ _ (HS2.out.up ((Up.refl _).alloc _))).mono ?_
  rintro e w3 ⟨gz, rfl, zgz, hgz, hz, hs3, hk3⟩
  have hz0 := hz 0 (by omega)
  have HO3 := Lib.hid ((Op7.new w2 29 0 0 false 0 noS noS w2.heap.size rfl).keep hk3 (by have := HS2.out.lt; omega))
  have HR3 := Lib.hid ((HR2.out.up ((Up.refl _).alloc _)).keep hk3 (by have := HB.out; omega))
  have HS3 := Lib.hid hs3
  have HN3 := Lib.hid (show Near b w w3 from (HN2.out.up ((Up.refl _).alloc _)).trans hk3)
  clear hs3 hk3 d0 zg2 hz
  obtain ⟨of, olt, o0, o1, o2, o3, o4, o5, o6⟩ := HO3.out
  obtain ⟨rf, rlt, r0, r1, r2, r3, r4, r5, r6⟩ := HR3.out
  unfold noS at o5 o6 r5 r6
  go_wp2_with fail
  have hk := (Keep.setCell (Keep.refl (fun k => k = w.heap.size ∨ k = w2.heap.size) w3) (p := ⟨w2.heap.size, 4, none⟩) (.inl (.inr rfl)) (.int .u8 0)).trans (st7_keep _ w.heap.size 29 0 0 false 0 noS noS (.inl rfl))
  have hn := near_of HN3.out (hk.mono (fun k e => by rcases e with rfl | rfl <;> omega))
  have hs := HS3.out.far hk (fun k e => by have := HB.out; rcases e with rfl | rfl <;> omega)
  refine bodyPost_ret (results_op rfl rfl ((HR3.out.keep (near_set w3 w2.heap.size 4 (.int .u8 0)) (by omega)).st 29 0 0 false 0 noS noS)) rfl ?_
  exact ⟨_, _, _, _, _, _, _, _, _, _, _, _, _, _, _, _, rfl, by omega, hs, hn⟩
set_option maxHeartbeats 3200000 in
theorem op_text [QP] {w : World} {b : Nat} {A : Option Addr} {n c : Nat} {x : Int} {q : List Int} (h : Sc w b A n c (x :: q) 0) (hx : isOrd x = false) :
    Calls Tryz.prog 383 #[.pointer (some ⟨b, 0, none⟩)] w (GoodOp w b ((x :: q).drop (txtN (x :: q))) ⟨0, 0, 0, false, 0, [], (x :: q).take (txtN (x :: q))⟩) := by
  have h1 : 0 < txtN (x :: q) := by unfold txtN; rw [hx]; simp
  have HI := Lib.hid (fun w => is_is (h.sl.bytes x (by simp)) w)
  have HT := Lib.hid (fun W (hu : Up w W) => text_is (h.up hu) h1)
  obtain ⟨g, off, rfl, zg, hgb, hx0⟩ := h.cell (i := 0) (by have := h.sl.len; simp at this; omega)
  simp only [List.getD_cons_zero, Nat.add_zero] at hx0
  have hn : (0 : Int) < (n : Int) := by have := h.sl.len; simp at this; omega
  have s0 := h.c0
  have zb := h.lt
  have HB := Lib.hid h.lt
  rw [hx] at HI
  generalize txtN (x :: q) = m at *
  generalize (x :: q).drop m = r at *
  generalize (x :: q).take m = T at *
  clear h hx h1
  go_enter Tryz.func383, Tryz.ntmps383
  go_wp2_with fail
  refine (HI.out _).mono ?_
  rintro e w1 ⟨rfl, rfl⟩
  have HR0 := Lib.hid (Op7.new w 0 0 0 false 0 noS noS w.heap.size rfl)
  have HU0 := Lib.hid ((Up.refl w).alloc (.cells #[.int .i64 0, .int .i64 0, .int .u8 0, .bool false, .int .u8 0, .slice none 0 0, .slice none 0 0] 463))
  go_wp2_with fail
  refine (HT.out _ HU0.out).mono ?_
  rintro e w2 ⟨A1, c1, rfl, hsl, ⟨A2, n2, c2, hs2⟩, hk2⟩
  have HR2 := Lib.hid (HR0.out.keep hk2 (by omega))
  have HS2 := Lib.hid hs2
  have HL2 := Lib.hid hsl
  have HN2 := Lib.hid (show Near b w w2 from (Keep.of_up HU0.out).trans hk2)
  clear hs2 hk2 s0 hx0 hsl
  obtain ⟨rf, rlt, r0, r1, r2, r3, r4, r5, r6⟩ := HR2.out
  unfold noS at r5 r6
  go_wp2_with fail
  have hk := st7_keep w2 w.heap.size 0 0 0 false 0 noS (.slice A1 m c1) (E := fun k => k = w.heap.size) rfl
  have hn := near_of HN2.out (hk.mono (fun k e => by subst e; exact Nat.le_refl _))
  have hs := HS2.out.far hk (fun k e => by have := HB.out; omega)
  refine bodyPost_ret (results_op rfl rfl (HR2.out.st 0 0 0 false 0 noS (.slice A1 m c1))) rfl ?_
  exact ⟨_, _, _, _, _, _, rfl, Pr.none_, (HL2.out.past hk (fun p hp e => by have := HL2.out.at_ p hp; simp at this; omega)).low (by simp), ⟨_, _, _, hs⟩, hn⟩
end Go.Proofs.YtamfjgioajmnpaaGreatDoor
