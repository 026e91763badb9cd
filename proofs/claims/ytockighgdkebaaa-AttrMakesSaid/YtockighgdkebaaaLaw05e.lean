/-
  The walk of AttrMakes: whatever the two cells, it returns true. No condition.
-/
import Derived.Test.YtockighgdkebaaaAttr9
import Derived.Test.YtockighgdkebaaaLaw05b
import Derived.Test.YtockighgdkebaaaMix
namespace Go.Proofs.Ytockighgdkebaaa
open Go.RowKit
set_option linter.unusedVariables false
set_option linter.unusedSimpArgs false

def apQ (a : Bool) (x : Int × Int × Int × Int) (p : Int × Int) : Int × Int × Int × Int := (aFA p.1 p.2 a x.1, aHi p.1 p.2 x.2.1, aCo p.1 p.2 x.2.2.1, aSe p.1 p.2 x.2.2.2)
theorem six05_again0 : ∀ k : Fin 256, six05 (sixOf (six05 k.val)) = six05 k.val := by decide +kernel
theorem six05_again (b : Int) (h0 : 0 ≤ b) (h1 : b ≤ 255) : six05 (sixOf (six05 b)) = six05 b := by
  obtain ⟨k, rfl⟩ : ∃ k : Fin 256, b = k.val := ⟨⟨b.toNat, by omega⟩, by simp; omega⟩
  exact six05_again0 k
def wfa (a : Bool) (fa : Int) : Int := if a then six05 fa else 0
theorem fold_diff (a : Bool) (fa h1 c1 s1 h2 c2 s2 : Int) : (diffL h1 c1 s1 h2 c2 s2).foldl (apQ a) (fa, h1, c1, s1) = (fa, h2, c2, s2) := by
  by_cases e1 : h1 = h2 <;> by_cases e2 : c1 = c2 <;> by_cases e3 : s1 = s2 <;> simp [diffL, dJ, pick, apQ, aFA, aHi, aCo, aSe, e1, e2, e3]
theorem fold_pairs (a : Bool) (fa hi co se : Int) (h0 : 0 ≤ fa) (h1 : fa ≤ 255) : (pairsL a fa hi co se).foldl (apQ a) (0, 0, 0, 0) = (wfa a fa, hi, co, se) := by
  rw [pairsL, List.foldl_append]
  have : (faL a fa).foldl (apQ a) (0, 0, 0, 0) = (wfa a fa, 0, 0, 0) := by
    cases a
    · simp [faL, pick, wfa]
    · simp [faL, pick, wfa, apQ, aFA, aHi, aCo, aSe, six05_again fa h0 h1]
  rw [this]
  exact fold_diff a (wfa a fa) 0 0 0 hi co se
theorem fold_step (a : Bool) (x : Int × Int × Int × Int) (L : List (Int × Int)) (j : Nat) (h : j < L.length) : (L.take (j + 1)).foldl (apQ a) x = apQ a ((L.take j).foldl (apQ a) x) (L.getD j (0, 0)) := by
  rw [List.take_succ_eq_append_getElem h, List.foldl_append]
  simp [List.getD, List.getElem?_eq_getElem h]
def Bd (L : List (Int × Int)) : Prop := ∀ p ∈ L, 0 ≤ p.2 ∧ p.2 ≤ 255
theorem bd_pick {b : Bool} {t v : Int} (h0 : 0 ≤ v) (h1 : v ≤ 255) : Bd (pick b (t, v)) := by
  intro p hp
  cases b
  · simp [pick] at hp
  · simp [pick] at hp
    subst hp
    exact ⟨h0, h1⟩
theorem Bd.app {L L' : List (Int × Int)} (h : Bd L) (h' : Bd L') : Bd (L ++ L') := fun p hp => (List.mem_append.1 hp).elim (h p) (h' p)
theorem bd_diff (h1 c1 s1 h2 c2 s2 : Int) (a0 : 0 ≤ h2) (a1 : h2 ≤ 255) (b0 : 0 ≤ c2) (b1 : c2 ≤ 255) (d0 : 0 ≤ s2) (d1 : s2 ≤ 255) : Bd (diffL h1 c1 s1 h2 c2 s2) :=
  ((bd_pick a0 a1).app (bd_pick b0 b1)).app (bd_pick d0 d1)
theorem bd_pairs (a : Bool) (fa hi co se : Int) (a0 : 0 ≤ hi) (a1 : hi ≤ 255) (b0 : 0 ≤ co) (b1 : co ≤ 255) (d0 : 0 ≤ se) (d1 : se ≤ 255) : Bd (pairsL a fa hi co se) :=
  (bd_pick (sixOf_bd _).1 (sixOf_bd _).2).app (bd_diff 0 0 0 hi co se a0 a1 b0 b1 d0 d1)
theorem Bd.at_ {L : List (Int × Int)} (h : Bd L) {j : Nat} (hj : j < L.length) : 0 ≤ (L.getD j (0, 0)).2 ∧ (L.getD j (0, 0)).2 ≤ 255 := by
  refine h _ ?_
  simp [List.getD, List.getElem?_eq_getElem hj]

structure CellAt (w : World) (g : Nat) (ch : Int) (a : Bool) (x : Int × Int × Int × Int) : Prop where
  x0 : w.cell? ⟨g, 0, none⟩ = some (.int .u8 ch)
  x1 : w.cell? ⟨g, 1, none⟩ = some (.bool a)
  x2 : w.cell? ⟨g, 2, none⟩ = some (.int .u8 x.1)
  x3 : w.cell? ⟨g, 3, none⟩ = some (.int .u8 x.2.1)
  x4 : w.cell? ⟨g, 4, none⟩ = some (.int .u8 x.2.2.1)
  x5 : w.cell? ⟨g, 5, none⟩ = some (.int .u8 x.2.2.2)
  z0 : w.frozen? ⟨g, 0, none⟩ = false
  z1 : w.frozen? ⟨g, 1, none⟩ = false
  z2 : w.frozen? ⟨g, 2, none⟩ = false
  z3 : w.frozen? ⟨g, 3, none⟩ = false
  z4 : w.frozen? ⟨g, 4, none⟩ = false
  z5 : w.frozen? ⟨g, 5, none⟩ = false
theorem CellAt.same {w w' : World} {g : Nat} {ch : Int} {a : Bool} {x : Int × Int × Int × Int} (h : CellAt w g ch a x) (hu : (∀ o, w'.cell? ⟨g, o, none⟩ = w.cell? ⟨g, o, none⟩) ∧ (∀ o, w'.frozen? ⟨g, o, none⟩ = w.frozen? ⟨g, o, none⟩)) : CellAt w' g ch a x :=
  ⟨by rw [hu.1]; exact h.x0, by rw [hu.1]; exact h.x1, by rw [hu.1]; exact h.x2, by rw [hu.1]; exact h.x3, by rw [hu.1]; exact h.x4, by rw [hu.1]; exact h.x5,
   by rw [hu.2]; exact h.z0, by rw [hu.2]; exact h.z1, by rw [hu.2]; exact h.z2, by rw [hu.2]; exact h.z3, by rw [hu.2]; exact h.z4, by rw [hu.2]; exact h.z5⟩
theorem CellAt.up {w w' : World} {g : Nat} {ch : Int} {a : Bool} {x : Int × Int × Int × Int} (h : CellAt w g ch a x) (hu : Up w w') (hg : g < w.heap.size) : CellAt w' g ch a x := h.same (hu.at_ g hg)
theorem CellAt.near {w w' : World} {g b : Nat} {ch : Int} {a : Bool} {x : Int × Int × Int × Int} (h : CellAt w g ch a x) (hu : Near b w w') (hg : g < w.heap.size) (hb : g ≠ b) : CellAt w' g ch a x := h.same (hu.at_ g hg hb)

theorem keep_set {b : Nat} {a c : World} (h : Keep (fun k => k = b) a c) (x : Nat) (v : Value) : Keep (fun k => k = b) a (c.setCell ⟨b, x, none⟩ v) := h.setCell (.inl rfl) v
/-- a slice of these pairs -/
def RMs (L : List (Int × Int)) (v : Value) (W : World) : Prop := ∃ A n c, v = .slice A n c ∧ n = L.length ∧ True ∧ True ∧ Reads W W.heap.size 2 A n (ps L)
theorem rms_up (L : List (Int × Int)) (v : Value) (W W' : World) (h : RMs L v W) (hu : Up W W') : RMs L v W' := by
  obtain ⟨A, n, c, rfl, hn, h1, h2, hr⟩ := h
  exact ⟨A, n, c, rfl, hn, h1, h2, hr.up hu⟩
theorem rms_own {L : List (Int × Int)} {w w' : World} {base : Nat} {E : TypeId} {A : Option Addr} {c : Nat} (h : w'.ownsRow base E 2 (.slice A L.length c) L.length (ps L)) : RMs L (.slice A L.length c) w' := ⟨A, _, c, rfl, rfl, trivial, trivial, Reads.of_own h⟩
theorem back_ms {A : Option Addr} {c : Nat} {L : List (Int × Int)} {w : World} (hr : Reads w w.heap.size 2 A L.length (ps L)) (hn : L.length ≤ 65536) :
    Calls Try.prog 27 #[.slice A L.length c] w fun e w' => ∃ A' c', e = .returned (.slice A' L.length c') ∧ RMs L (.slice A' L.length c') w' ∧ Up w w' := by
  refine (back_any A L.length c L w hr hn).mono ?_
  rintro e w' ⟨A', c', rfl, ho, _, _, hu⟩
  exact ⟨A', c', rfl, rms_own (w := w) ho, hu⟩
theorem eq_ms {A A' : Option Addr} {c c' : Nat} {L : List (Int × Int)} {w : World} (hr : Reads w w.heap.size 2 A L.length (ps L)) (hr' : Reads w w.heap.size 2 A' L.length (ps L)) (hn : L.length ≤ 65536) :
    Calls Try.prog 26 #[.slice A L.length c, .slice A' L.length c'] w fun e w' => e = .returned (.bool true) ∧ Up w w' := by
  refine (equal_any A A' L.length L.length c c' L L w hr hr' hn hn).mono ?_
  rintro e w' ⟨rfl, hu⟩
  exact ⟨by simp, hu⟩
theorem refpairs_ms {ch fa hi co se : Int} {a : Bool} {w : World} {L : List (Int × Int)} (hL : pairsL a fa hi co se = L) (hf0 : 0 ≤ fa) (hf1 : fa ≤ 255) :
    Calls Try.prog 32 #[.agg #[.int .u8 ch, .bool a, .int .u8 fa, .int .u8 hi, .int .u8 co, .int .u8 se]] w fun e w' => ∃ A' c', e = .returned (.slice A' L.length c') ∧ RMs L (.slice A' L.length c') w' ∧ Up w w' := by
  subst hL
  refine (ref_pairs ch fa hi co se a w hf0 hf1).mono ?_
  rintro e w' ⟨A', c', rfl, ho, _, _, hu⟩
  exact ⟨A', c', rfl, rms_own (w := w) ho, hu⟩
theorem diff_ms {ch1 fa1 h1 c1 s1 ch2 fa2 h2 c2 s2 : Int} {a1 a2 : Bool} {w : World} {L : List (Int × Int)} (hL : diffL h1 c1 s1 h2 c2 s2 = L) :
    Calls Try.prog 33 #[.agg #[.int .u8 ch1, .bool a1, .int .u8 fa1, .int .u8 h1, .int .u8 c1, .int .u8 s1], .agg #[.int .u8 ch2, .bool a2, .int .u8 fa2, .int .u8 h2, .int .u8 c2, .int .u8 s2]] w fun e w' => ∃ A' c', e = .returned (.slice A' L.length c') ∧ RMs L (.slice A' L.length c') w' ∧ Up w w' := by
  subst hL
  refine (diff_is ch1 fa1 h1 c1 s1 ch2 fa2 h2 c2 s2 a1 a2 w).mono ?_
  rintro e w' ⟨A', c', rfl, ho, _, _, hu⟩
  exact ⟨A', c', rfl, rms_own (w := w) ho, hu⟩
theorem refdiff_ms {ch1 fa1 h1 c1 s1 ch2 fa2 h2 c2 s2 : Int} {a1 a2 : Bool} {w : World} {L : List (Int × Int)} (hL : diffL h1 c1 s1 h2 c2 s2 = L) :
    Calls Try.prog 34 #[.agg #[.int .u8 ch1, .bool a1, .int .u8 fa1, .int .u8 h1, .int .u8 c1, .int .u8 s1], .agg #[.int .u8 ch2, .bool a2, .int .u8 fa2, .int .u8 h2, .int .u8 c2, .int .u8 s2]] w fun e w' => ∃ A' c', e = .returned (.slice A' L.length c') ∧ RMs L (.slice A' L.length c') w' ∧ Up w w' := by
  subst hL
  refine (ref_diff ch1 fa1 h1 c1 s1 ch2 fa2 h2 c2 s2 a1 a2 w).mono ?_
  rintro e w' ⟨A', c', rfl, ho, _, _, hu⟩
  exact ⟨A', c', rfl, rms_own (w := w) ho, hu⟩

set_option maxRecDepth 100000 in
set_option maxHeartbeats 6400000 in
theorem law_makes (ch : Int) (a : Bool) (fa hi co se : Int) (ch2 : Int) (a2 : Bool) (fa2 hi2 co2 se2 : Int) (w : World) (bch0 : 0 ≤ ch) (bch1 : ch ≤ 255) (bfa0 : 0 ≤ fa) (bfa1 : fa ≤ 255) (bhi0 : 0 ≤ hi) (bhi1 : hi ≤ 255) (bco0 : 0 ≤ co) (bco1 : co ≤ 255) (bse0 : 0 ≤ se) (bse1 : se ≤ 255) (bch20 : 0 ≤ ch2) (bch21 : ch2 ≤ 255) (bfa20 : 0 ≤ fa2) (bfa21 : fa2 ≤ 255) (bhi20 : 0 ≤ hi2) (bhi21 : hi2 ≤ 255) (bco20 : 0 ≤ co2) (bco21 : co2 ≤ 255) (bse20 : 0 ≤ se2) (bse21 : se2 ≤ 255) :
    Calls Try.prog 7 #[.agg #[.int .u8 ch, .bool a, .int .u8 fa, .int .u8 hi, .int .u8 co, .int .u8 se], .agg #[.int .u8 ch2, .bool a2, .int .u8 fa2, .int .u8 hi2, .int .u8 co2, .int .u8 se2]] w fun e w' => e = .returned (.bool true) ∧ Up w w' := by
  obtain ⟨L, hL⟩ : ∃ L, pairsL a fa hi co se = L := ⟨_, rfl⟩
  obtain ⟨D, hD⟩ : ∃ D, diffL hi co se hi2 co2 se2 = D := ⟨_, rfl⟩
  have hl4 : L.length ≤ 65536 := by have := pairsL_len a fa hi co se; rw [hL] at this; omega
  have hd3 : D.length ≤ 65536 := by have := diffL_len hi co se hi2 co2 se2; rw [hD] at this; omega
  have HLB := Lib.hid (show Bd L by rw [← hL]; exact bd_pairs a fa hi co se bhi0 bhi1 bco0 bco1 bse0 bse1)
  have HDB := Lib.hid (show Bd D by rw [← hD]; exact bd_diff hi co se hi2 co2 se2 bhi20 bhi21 bco20 bco21 bse20 bse21)
  have HFL := Lib.hid (show L.foldl (apQ a) (0, 0, 0, 0) = (wfa a fa, hi, co, se) by rw [← hL]; exact fold_pairs a fa hi co se bfa0 bfa1)
  have HFD := Lib.hid (show D.foldl (apQ a) (fa, hi, co, se) = (fa, hi2, co2, se2) by rw [← hD]; exact fold_diff a fa hi co se hi2 co2 se2)
  have HLE := Lib.hid hL
  have HDE := Lib.hid hD
  clear hL hD
  go_enter Try.func7, Try.ntmps7
  go_upto_region 1 with (fail)
  have UQ : Up w ((w.alloc (.cells #[.int .u8 ch, .bool a, .int .u8 fa, .int .u8 hi, .int .u8 co, .int .u8 se] 38)).alloc (.cells #[.int .u8 ch2, .bool a2, .int .u8 fa2, .int .u8 hi2, .int .u8 co2, .int .u8 se2] 38)) := by (repeat (first | with_reducible exact Up.refl _ | with_reducible refine Up.alloc ?_ _ | with_reducible refine Up.drew ?_ | with_reducible refine Up.drewN ?_ _ | with_reducible refine Up.setCell ?_ (by (try simp) <;> omega) _ | with_reducible assumption | with_reducible refine Up.trans ?_ (by assumption)))
  have z1 : w.heap.size < ((w.alloc (.cells #[.int .u8 ch, .bool a, .int .u8 fa, .int .u8 hi, .int .u8 co, .int .u8 se] 38)).alloc (.cells #[.int .u8 ch2, .bool a2, .int .u8 fa2, .int .u8 hi2, .int .u8 co2, .int .u8 se2] 38)).heap.size := by simp; omega
  have z2 : w.heap.size + 1 < ((w.alloc (.cells #[.int .u8 ch, .bool a, .int .u8 fa, .int .u8 hi, .int .u8 co, .int .u8 se] 38)).alloc (.cells #[.int .u8 ch2, .bool a2, .int .u8 fa2, .int .u8 hi2, .int .u8 co2, .int .u8 se2] 38)).heap.size := by simp
  have SQ : ((w.alloc (.cells #[.int .u8 ch, .bool a, .int .u8 fa, .int .u8 hi, .int .u8 co, .int .u8 se] 38)).alloc (.cells #[.int .u8 ch2, .bool a2, .int .u8 fa2, .int .u8 hi2, .int .u8 co2, .int .u8 se2] 38)).cell? ⟨w.heap.size, 0, none⟩ = some (.int .u8 ch) ∧ ((w.alloc (.cells #[.int .u8 ch, .bool a, .int .u8 fa, .int .u8 hi, .int .u8 co, .int .u8 se] 38)).alloc (.cells #[.int .u8 ch2, .bool a2, .int .u8 fa2, .int .u8 hi2, .int .u8 co2, .int .u8 se2] 38)).cell? ⟨w.heap.size, 1, none⟩ = some (.bool a) ∧ ((w.alloc (.cells #[.int .u8 ch, .bool a, .int .u8 fa, .int .u8 hi, .int .u8 co, .int .u8 se] 38)).alloc (.cells #[.int .u8 ch2, .bool a2, .int .u8 fa2, .int .u8 hi2, .int .u8 co2, .int .u8 se2] 38)).cell? ⟨w.heap.size, 2, none⟩ = some (.int .u8 fa) ∧ ((w.alloc (.cells #[.int .u8 ch, .bool a, .int .u8 fa, .int .u8 hi, .int .u8 co, .int .u8 se] 38)).alloc (.cells #[.int .u8 ch2, .bool a2, .int .u8 fa2, .int .u8 hi2, .int .u8 co2, .int .u8 se2] 38)).cell? ⟨w.heap.size, 3, none⟩ = some (.int .u8 hi) ∧ ((w.alloc (.cells #[.int .u8 ch, .bool a, .int .u8 fa, .int .u8 hi, .int .u8 co, .int .u8 se] 38)).alloc (.cells #[.int .u8 ch2, .bool a2, .int .u8 fa2, .int .u8 hi2, .int .u8 co2, .int .u8 se2] 38)).cell? ⟨w.heap.size, 4, none⟩ = some (.int .u8 co) ∧ ((w.alloc (.cells #[.int .u8 ch, .bool a, .int .u8 fa, .int .u8 hi, .int .u8 co, .int .u8 se] 38)).alloc (.cells #[.int .u8 ch2, .bool a2, .int .u8 fa2, .int .u8 hi2, .int .u8 co2, .int .u8 se2] 38)).cell? ⟨w.heap.size, 5, none⟩ = some (.int .u8 se) ∧ ((w.alloc (.cells #[.int .u8 ch, .bool a, .int .u8 fa, .int .u8 hi, .int .u8 co, .int .u8 se] 38)).alloc (.cells #[.int .u8 ch2, .bool a2, .int .u8 fa2, .int .u8 hi2, .int .u8 co2, .int .u8 se2] 38)).cell? ⟨w.heap.size + 1, 0, none⟩ = some (.int .u8 ch2) ∧ ((w.alloc (.cells #[.int .u8 ch, .bool a, .int .u8 fa, .int .u8 hi, .int .u8 co, .int .u8 se] 38)).alloc (.cells #[.int .u8 ch2, .bool a2, .int .u8 fa2, .int .u8 hi2, .int .u8 co2, .int .u8 se2] 38)).cell? ⟨w.heap.size + 1, 1, none⟩ = some (.bool a2) ∧ ((w.alloc (.cells #[.int .u8 ch, .bool a, .int .u8 fa, .int .u8 hi, .int .u8 co, .int .u8 se] 38)).alloc (.cells #[.int .u8 ch2, .bool a2, .int .u8 fa2, .int .u8 hi2, .int .u8 co2, .int .u8 se2] 38)).cell? ⟨w.heap.size + 1, 2, none⟩ = some (.int .u8 fa2) ∧ ((w.alloc (.cells #[.int .u8 ch, .bool a, .int .u8 fa, .int .u8 hi, .int .u8 co, .int .u8 se] 38)).alloc (.cells #[.int .u8 ch2, .bool a2, .int .u8 fa2, .int .u8 hi2, .int .u8 co2, .int .u8 se2] 38)).cell? ⟨w.heap.size + 1, 3, none⟩ = some (.int .u8 hi2) ∧ ((w.alloc (.cells #[.int .u8 ch, .bool a, .int .u8 fa, .int .u8 hi, .int .u8 co, .int .u8 se] 38)).alloc (.cells #[.int .u8 ch2, .bool a2, .int .u8 fa2, .int .u8 hi2, .int .u8 co2, .int .u8 se2] 38)).cell? ⟨w.heap.size + 1, 4, none⟩ = some (.int .u8 co2) ∧ ((w.alloc (.cells #[.int .u8 ch, .bool a, .int .u8 fa, .int .u8 hi, .int .u8 co, .int .u8 se] 38)).alloc (.cells #[.int .u8 ch2, .bool a2, .int .u8 fa2, .int .u8 hi2, .int .u8 co2, .int .u8 se2] 38)).cell? ⟨w.heap.size + 1, 5, none⟩ = some (.int .u8 se2) := by
    refine ⟨?_, ?_, ?_, ?_, ?_, ?_, ?_, ?_, ?_, ?_, ?_, ?_⟩ <;> go_simp
  generalize ((w.alloc (.cells #[.int .u8 ch, .bool a, .int .u8 fa, .int .u8 hi, .int .u8 co, .int .u8 se] 38)).alloc (.cells #[.int .u8 ch2, .bool a2, .int .u8 fa2, .int .u8 hi2, .int .u8 co2, .int .u8 se2] 38)) = wq at UQ z1 z2 SQ ⊢
  have TK := Lib.hid (show ∀ W, Up wq W → W.cell? ⟨w.heap.size, 0, none⟩ = some (.int .u8 ch) ∧ W.cell? ⟨w.heap.size, 1, none⟩ = some (.bool a) ∧ W.cell? ⟨w.heap.size, 2, none⟩ = some (.int .u8 fa) ∧ W.cell? ⟨w.heap.size, 3, none⟩ = some (.int .u8 hi) ∧ W.cell? ⟨w.heap.size, 4, none⟩ = some (.int .u8 co) ∧ W.cell? ⟨w.heap.size, 5, none⟩ = some (.int .u8 se) ∧ W.cell? ⟨w.heap.size + 1, 0, none⟩ = some (.int .u8 ch2) ∧ W.cell? ⟨w.heap.size + 1, 1, none⟩ = some (.bool a2) ∧ W.cell? ⟨w.heap.size + 1, 2, none⟩ = some (.int .u8 fa2) ∧ W.cell? ⟨w.heap.size + 1, 3, none⟩ = some (.int .u8 hi2) ∧ W.cell? ⟨w.heap.size + 1, 4, none⟩ = some (.int .u8 co2) ∧ W.cell? ⟨w.heap.size + 1, 5, none⟩ = some (.int .u8 se2) from fun W hu => by
    have b1 := (hu.at_ w.heap.size z1).1
    have b2 := (hu.at_ (w.heap.size + 1) z2).1
    simp only [b1, b2]
    exact SQ)
  clear SQ
  go_wp2_with fail
  refine (awake05 _).mono ?_
  rintro e w1 ⟨rfl, u1⟩
  obtain ⟨k0, k1, k2, k3, k4, k5, m0, m1, m2, m3, m4, m5⟩ := TK.out w1 u1
  go_wp2_with fail
  refine (pairs_is ch fa hi co se a _ bfa0 bfa1).mono ?_
  rintro e w2 ⟨A2, c2, rfl, hO2, hle2, hmx2, u2⟩
  rw [HLE.out] at hO2 ⊢
  have HRL := Lib.hid (Reads.of_own hO2)
  clear hO2
  clear k0 k1 k2 k3 k4 k5 m0 m1 m2 m3 m4 m5
  have Q2 : Up wq w2 := u1.trans u2
  obtain ⟨k0, k1, k2, k3, k4, k5, m0, m1, m2, m3, m4, m5⟩ := TK.out w2 Q2
  have z12 : w.heap.size < w2.heap.size := by have := Q2.size; omega
  have z22 : w.heap.size + 1 < w2.heap.size := by have := Q2.size; omega
  go_upto_region 4 with (fail)
  go_cut [37] from 21 to 38 (fun v wx => v = .bool false ∧ Up w2 wx)
  case first =>
    go_wp2_with fail
    refine wp_region_mix (NS := [(22, RMs L), (24, RMs L), (30, RMs D), (31, RMs D), (34, RMs D)]) [22, 24, 30, 31, 34] rfl (by kernel_rfl) (by kernel_rfl) (by simp) (by intro p hp; simp only [List.mem_cons, List.mem_nil_iff, or_false] at hp; rcases hp with rfl | rfl | rfl | rfl | rfl; all_goals (first | exact rsl_up _ | exact rptr_up _ | exact rms_up _)) ?_
    repeat (first
      | (refine mix_skip rfl rfl ?_; simp only [Act.put, List.setIfInBounds_toArray, List.set_cons_succ, List.set_cons_zero])
      | (refine mix_q rfl rfl rfl (by kernel_rfl) rfl rfl rfl ?_
         apply Exists.intro
         refine ⟨fun Wm => ?_, ?_⟩
         · simp only [fin]
           repeat (rintro (vm : Value) hvm; first | (obtain ⟨gm, om, rfl, hgm, hcm⟩ := hvm) | (obtain ⟨gm, om, cm, rfl, h2m, hxm, hgm, hcm, hdm⟩ := rsl_two hvm) | (obtain ⟨Am, nm, cm, rfl, hnm, hlm, hmm, hrm⟩ := hvm; (try simp only [List.length_cons, List.length_nil, Nat.zero_add, Nat.reduceAdd] at hnm); subst hnm))
           intro K hK
           go_wp2_with ((first | (go_at_call 27; (with_reducible refine (back_ms (HRL.out.up (up_upOf _ _)) hl4).mono ?_); rintro e w' ⟨Ax, cx, rfl, hRx, hux⟩) | (go_at_call 27; (with_reducible refine (back_ms (by assumption) hd3).mono ?_); rintro e w' ⟨Ax, cx, rfl, hRx, hux⟩) | (go_at_call 26; (with_reducible refine (eq_ms (by assumption) (by assumption) (by assumption)).mono ?_); rintro e w' ⟨rfl, hux⟩) | (go_at_call 32; (with_reducible refine (refpairs_ms HLE.out bfa0 bfa1).mono ?_); rintro e w' ⟨Ax, cx, rfl, hRx, hux⟩) | (go_at_call 33; (with_reducible refine (diff_ms HDE.out).mono ?_); rintro e w' ⟨Ax, cx, rfl, hRx, hux⟩) | (go_at_call 34; (with_reducible refine (refdiff_ms HDE.out).mono ?_); rintro e w' ⟨Ax, cx, rfl, hRx, hux⟩)))
           refine hK _ _ ?_ ?_ ?_
           · (repeat (first | with_reducible exact Up.refl _ | with_reducible refine Up.alloc ?_ _ | with_reducible refine Up.drew ?_ | with_reducible refine Up.drewN ?_ _ | with_reducible refine Up.setCell ?_ (by (try simp) <;> omega) _ | with_reducible assumption | with_reducible refine Up.trans ?_ (by assumption)))
           · rfl
           · rfl
         simp only [Act.put, List.setIfInBounds_toArray, List.set_cons_succ, List.set_cons_zero])
      | (refine mix_n rfl rfl rfl (by kernel_rfl) rfl rfl rfl ?_ ?_
         · intro Wm
           simp only [fin]
           repeat (rintro (vm : Value) hvm; first | (obtain ⟨gm, om, rfl, hgm, hcm⟩ := hvm) | (obtain ⟨gm, om, cm, rfl, h2m, hxm, hgm, hcm, hdm⟩ := rsl_two hvm) | (obtain ⟨Am, nm, cm, rfl, hnm, hlm, hmm, hrm⟩ := hvm; (try simp only [List.length_cons, List.length_nil, Nat.zero_add, Nat.reduceAdd] at hnm); subst hnm))
           intro K hK
           go_wp2_with ((first | (go_at_call 27; (with_reducible refine (back_ms (HRL.out.up (up_upOf _ _)) hl4).mono ?_); rintro e w' ⟨Ax, cx, rfl, hRx, hux⟩) | (go_at_call 27; (with_reducible refine (back_ms (by assumption) hd3).mono ?_); rintro e w' ⟨Ax, cx, rfl, hRx, hux⟩) | (go_at_call 26; (with_reducible refine (eq_ms (by assumption) (by assumption) (by assumption)).mono ?_); rintro e w' ⟨rfl, hux⟩) | (go_at_call 32; (with_reducible refine (refpairs_ms HLE.out bfa0 bfa1).mono ?_); rintro e w' ⟨Ax, cx, rfl, hRx, hux⟩) | (go_at_call 33; (with_reducible refine (diff_ms HDE.out).mono ?_); rintro e w' ⟨Ax, cx, rfl, hRx, hux⟩) | (go_at_call 34; (with_reducible refine (refdiff_ms HDE.out).mono ?_); rintro e w' ⟨Ax, cx, rfl, hRx, hux⟩)))
           apply hK
           · (repeat (first | with_reducible exact Up.refl _ | with_reducible refine Up.alloc ?_ _ | with_reducible refine Up.drew ?_ | with_reducible refine Up.drewN ?_ _ | with_reducible refine Up.setCell ?_ (by (try simp) <;> omega) _ | with_reducible assumption | with_reducible refine Up.trans ?_ (by assumption)))
           · rfl
           · rfl
           · first | exact rsl_lit _ _ _ _ _ _ rfl rfl (by simp [maxLen]) rfl | exact ⟨_, _, rfl, hgm, hcm⟩ | exact ⟨_, _, rfl, hgm, hdm⟩ | assumption
         simp only [Act.put, List.setIfInBounds_toArray, List.set_cons_succ, List.set_cons_zero]))
    refine mix_nil ?_
    intro wm hb_wm
    simp only [fin]
    intro vm_wm_0 hvm_wm_0
    intro vm_wm_1 hvm_wm_1
    intro vm_wm_2 hvm_wm_2
    intro vm_wm_3 hvm_wm_3
    intro vm_wm_4 hvm_wm_4
    simp only [Act.put, List.setIfInBounds_toArray, List.set_cons_succ, List.set_cons_zero]
    have hu_wm : Up w2 wm := by (repeat (first | with_reducible exact Up.refl _ | with_reducible refine Up.alloc ?_ _ | with_reducible refine Up.drew ?_ | with_reducible refine Up.drewN ?_ _ | with_reducible refine Up.setCell ?_ (by (try simp) <;> omega) _ | with_reducible assumption | with_reducible refine Up.trans ?_ (by assumption)))
    have hz_wm := Up.size hb_wm
    try simp at hz_wm
    go_wp2_with fail
    go_meet
    exact ⟨rfl, hb_wm⟩
  case rest =>
    obtain ⟨rfl, hb_wm⟩ := hcut
    obtain ⟨wm, rfl⟩ : ∃ wm, wm = wc := ⟨_, rfl⟩
    clear k0 k1 k2 k3 k4 k5 m0 m1 m2 m3 m4 m5
    have UM : Up wq wm := Q2.trans hb_wm
    obtain ⟨k0, k1, k2, k3, k4, k5, m0, m1, m2, m3, m4, m5⟩ := TK.out wm UM
    go_wp2_with fail
    have HR5 := Lib.hid ((HRL.out.up hb_wm).alloc (Nat.le_refl _) (.cells #[.int .u8 ch, .bool a, .int .u8 0, .int .u8 0, .int .u8 0, .int .u8 0] 38))
    have U5 : Up wm (wm.alloc (.cells #[.int .u8 ch, .bool a, .int .u8 0, .int .u8 0, .int .u8 0, .int .u8 0] 38)) := (Up.refl _).alloc _
    have C5 : CellAt (wm.alloc (.cells #[.int .u8 ch, .bool a, .int .u8 0, .int .u8 0, .int .u8 0, .int .u8 0] 38)) wm.heap.size ch a (0, 0, 0, 0) := by
      refine ⟨?_, ?_, ?_, ?_, ?_, ?_, ?_, ?_, ?_, ?_, ?_, ?_⟩ <;> go_simp
    have z5 : wm.heap.size < (wm.alloc (.cells #[.int .u8 ch, .bool a, .int .u8 0, .int .u8 0, .int .u8 0, .int .u8 0] 38)).heap.size := by simp
    generalize (wm.alloc (.cells #[.int .u8 ch, .bool a, .int .u8 0, .int .u8 0, .int .u8 0, .int .u8 0] 38)) = w5 at HR5 U5 C5 z5 ⊢
    have hm5 := Up.size UM
    clear k0 k1 k2 k3 k4 k5 m0 m1 m2 m3 m4 m5 hb_wm
    have UQ' := Lib.hid UQ
    go_loopw [8, 9, 10, 45] (fun _ _ _ i wr => ∃ j : Nat, j ≤ L.length ∧ i = .int .i64 (j : Int) ∧ Near wm.heap.size w5 wr ∧ CellAt wr wm.heap.size ch a ((L.take j).foldl (apQ a) (0, 0, 0, 0))) (fun _ _ _ i _ => L.length - (intOf i).toNat)
    case atStart => exact ⟨0, by omega, rfl, Near.refl _ _, by simpa using C5⟩
    case round =>
      obtain ⟨j, hj, rfl, hn, hc⟩ := hrel
      have hsz := Near.size hn
      by_cases hlt : j < L.length
      · have hrr := (Reads.more (Reads.held HR5.out hn (Nat.le_of_lt z5) (fun k hk => Nat.le_of_eq hk.symm)) (show wm.heap.size ≤ wr.heap.size by omega))
        obtain ⟨b, off, rfl, hbb⟩ := hrr.form (by omega)
        obtain ⟨ca, cb, hbw⟩ := reads_ps hrr j hlt
        have hbd := HLB.out.at_ hlt
        have HF := Lib.hid (fold_step a (0, 0, 0, 0) L j hlt)
        have HN := Lib.hid hn
        have HC := Lib.hid hc
        clear hn hrr
        generalize (L.take j).foldl (apQ a) (0, 0, 0, 0) = q at *
        generalize L.getD j (0, 0) = p at *
        obtain ⟨q1, q2, q3, q4⟩ := q
        obtain ⟨p1, p2⟩ := p
        obtain ⟨c0, c1, c2, c3, c4, c5, d0, d1, d2, d3, d4, d5⟩ := hc
        dsimp only at ca cb c2 c3 c4 c5 hbd
        have zgc : wm.heap.size < wr.heap.size := by omega
        rcases Bool.eq_false_or_eq_true (rightB p1 p2) with hg | hg
        · go_wp2_with fail
          refine (apply_good _ _ _ _ _ _ _ _ _ hg hbd.1 hbd.2).mono ?_
          rintro e w9 ⟨rfl, u9⟩
          obtain ⟨e1, e2⟩ := u9.at_ (wm.heap.size) (by (try simp) <;> omega)
          have zg9 : wm.heap.size < w9.heap.size := by have := u9.size; (try simp at this) <;> omega
          go_wp2
          go_roundw
          case rel =>
            refine ⟨j + 1, by omega, by go_num, ?_, ?_⟩
            · have hN : Keep (fun k => k = wm.heap.size) w5 wr := HN.out
              have u9' : Up wr w9 := Up.trans ((Up.refl wr).alloc _) u9
              have hN9 := Keep.up hN u9'
              change Keep (fun k => k = wm.heap.size) w5 _
              (repeat (first | with_reducible exact Keep.refl _ _ | with_reducible assumption | with_reducible refine Keep.alloc ?_ _ | with_reducible refine Keep.drew ?_ | with_reducible refine keep_set ?_ _ _ | with_reducible refine Keep.up ?_ (by assumption)))
            · rw [HF.out]
              refine ⟨?_, ?_, ?_, ?_, ?_, ?_, ?_, ?_, ?_, ?_, ?_, ?_⟩ <;> (go_simp <;> rfl)
          case measure => simp [intOf]; omega
        · go_wp2_with fail
          refine (apply_bad _ _ _ _ _ _ _ _ _ hg).mono ?_
          rintro e w9 ⟨rfl, u9⟩
          have u9' : Up wr w9 := Up.trans ((Up.refl wr).alloc _) u9
          go_wp2
          go_ret
          exact ⟨rfl, (UQ'.out.trans UM).trans ((Up.keep U5 HN.out (fun i hi => Nat.le_of_eq hi.symm)).trans (u9'.alloc _))⟩
      · obtain rfl : j = L.length := by omega
        obtain ⟨w6, rfl⟩ : ∃ w6, w6 = wr := ⟨_, rfl⟩
        rw [List.take_length, HFL.out] at hc
        have U56 : Up wm w6 := Up.keep U5 hn (fun i hi => Nat.le_of_eq hi.symm)
        have UQ6 : Up wq w6 := UM.trans U56
        have zc6 : wm.heap.size < w6.heap.size := by omega
        have HCC := Lib.hid hc
        clear hn hc hlt
        obtain ⟨k0, k1, k2, k3, k4, k5, m0, m1, m2, m3, m4, m5⟩ := TK.out w6 UQ6
        have zw6 : w.heap.size < w6.heap.size := by have := UQ6.size; omega
        have zv6 : w.heap.size + 1 < w6.heap.size := by have := UQ6.size; omega
        go_upto_if 61 with (fail)
        go_cut [64] from 62 to 67 (fun v wx => Up w6 wx ∧ CellAt wx w6.heap.size ch a (wfa a fa, hi, co, se) ∧ w6.heap.size < wx.heap.size)
        case first =>
          rcases Bool.eq_false_or_eq_true a with ha | ha
          · subst ha
            go_wp2_with fail
            refine (ref_six05_any _ _ bfa0 bfa1).mono ?_
            rintro e w7 ⟨rfl, u7⟩
            obtain ⟨e1, e2⟩ := u7.at_ w6.heap.size (by simp)
            have hz7 := u7.size
            simp at hz7
            go_wp2
            go_meet
            refine ⟨by (repeat (first | with_reducible exact Up.refl _ | with_reducible refine Up.alloc ?_ _ | with_reducible refine Up.drew ?_ | with_reducible refine Up.drewN ?_ _ | with_reducible refine Up.setCell ?_ (by (try simp) <;> omega) _ | with_reducible assumption | with_reducible refine Up.trans ?_ (by assumption))), ?_, by (try simp) <;> omega⟩
            refine ⟨?_, ?_, ?_, ?_, ?_, ?_, ?_, ?_, ?_, ?_, ?_, ?_⟩ <;> (go_simp <;> rfl)
          · subst ha
            go_wp2
            go_meet
            refine ⟨by (repeat (first | with_reducible exact Up.refl _ | with_reducible refine Up.alloc ?_ _ | with_reducible refine Up.drew ?_ | with_reducible refine Up.drewN ?_ _ | with_reducible refine Up.setCell ?_ (by (try simp) <;> omega) _ | with_reducible assumption | with_reducible refine Up.trans ?_ (by assumption))), ?_, by (try simp) <;> omega⟩
            refine ⟨?_, ?_, ?_, ?_, ?_, ?_, ?_, ?_, ?_, ?_, ?_, ?_⟩ <;> (go_simp <;> rfl)
        case rest =>
          obtain ⟨U67, CW, zw⟩ := hcut
          obtain ⟨w7, rfl⟩ : ∃ w7, w7 = wc := ⟨_, rfl⟩
          clear k0 k1 k2 k3 k4 k5 m0 m1 m2 m3 m4 m5
          have UQ7 : Up wq w7 := UQ6.trans U67
          obtain ⟨k0, k1, k2, k3, k4, k5, m0, m1, m2, m3, m4, m5⟩ := TK.out w7 UQ7
          have hs67 := U67.size
          have zw7 : w.heap.size < w7.heap.size := by omega
          have zv7 : w.heap.size + 1 < w7.heap.size := by omega
          have CC7 := Lib.hid (HCC.out.up U67 zc6)
          have CW7 := Lib.hid CW
          clear CW
          go_wp2_with fail
          refine (diff_is ch fa hi co se ch2 fa2 hi2 co2 se2 a a2 _).mono ?_
          rintro e w8 ⟨A8, c8, rfl, hO8, hle8, hmx8, u8⟩
          rw [HDE.out] at hO8 ⊢
          have hs8 := u8.size
          simp at hs8
          have hne8 : ∀ p, A8 = some p → ¬ p.block = w7.heap.size := by
            intro p hp e
            subst hp
            have := (own_bd hO8 p.block rfl).1
            simp at this
            omega
          have HR8 := Lib.hid (Reads.of_own hO8)
          have HNE8 := Lib.hid hne8
          have C8 : CellAt w8 w7.heap.size ch a (fa, hi, co, se) := by
            refine CellAt.up ?_ u8 (by simp)
            refine ⟨?_, ?_, ?_, ?_, ?_, ?_, ?_, ?_, ?_, ?_, ?_, ?_⟩ <;> go_simp
          have U78 : Up w7 w8 := Up.trans ((Up.refl w7).alloc _) u8
          have CC8 := Lib.hid (CC7.out.up U78 (by omega))
          have CW8 := Lib.hid (CW7.out.up U78 (by omega))
          have UQ8 : Up wq w8 := UQ7.trans U78
          have z8 : w7.heap.size < w8.heap.size := by omega
          clear k0 k1 k2 k3 k4 k5 m0 m1 m2 m3 m4 m5 hne8 hO8
          go_wp2_with fail
          go_loopw [14, 15, 16, 72] (fun _ _ _ i wr => ∃ j : Nat, j ≤ D.length ∧ i = .int .i64 (j : Int) ∧ Near w7.heap.size w8 wr ∧ CellAt wr w7.heap.size ch a ((D.take j).foldl (apQ a) (fa, hi, co, se))) (fun _ _ _ i _ => D.length - (intOf i).toNat)
          case atStart => exact ⟨0, by omega, rfl, Near.refl _ _, by simpa using C8⟩
          case round =>
            obtain ⟨j, hj, rfl, hn, hc⟩ := hrel
            have hsz := Near.size hn
            by_cases hlt : j < D.length
            · have hrr := (Reads.kept HR8.out hn HNE8.out)
              obtain ⟨b, off, rfl, hbb⟩ := hrr.form (by omega)
              obtain ⟨ca, cb, hbw⟩ := reads_ps hrr j hlt
              have hbd := HDB.out.at_ hlt
              have HF := Lib.hid (fold_step a (fa, hi, co, se) D j hlt)
              have HN := Lib.hid hn
              have HC := Lib.hid hc
              clear hn hrr
              generalize (D.take j).foldl (apQ a) (fa, hi, co, se) = q at *
              generalize D.getD j (0, 0) = p at *
              obtain ⟨q1, q2, q3, q4⟩ := q
              obtain ⟨p1, p2⟩ := p
              obtain ⟨c0, c1, c2, c3, c4, c5, d0, d1, d2, d3, d4, d5⟩ := hc
              dsimp only at ca cb c2 c3 c4 c5 hbd
              have zgc : w7.heap.size < wr.heap.size := by omega
              rcases Bool.eq_false_or_eq_true (rightB p1 p2) with hg | hg
              · go_wp2_with fail
                refine (apply_good _ _ _ _ _ _ _ _ _ hg hbd.1 hbd.2).mono ?_
                rintro e w9 ⟨rfl, u9⟩
                obtain ⟨e1, e2⟩ := u9.at_ (w7.heap.size) (by (try simp) <;> omega)
                have zg9 : w7.heap.size < w9.heap.size := by have := u9.size; (try simp at this) <;> omega
                go_wp2
                go_roundw
                case rel =>
                  refine ⟨j + 1, by omega, by go_num, ?_, ?_⟩
                  · have hN : Keep (fun k => k = w7.heap.size) w8 wr := HN.out
                    have u9' : Up wr w9 := Up.trans ((Up.refl wr).alloc _) u9
                    have hN9 := Keep.up hN u9'
                    change Keep (fun k => k = w7.heap.size) w8 _
                    (repeat (first | with_reducible exact Keep.refl _ _ | with_reducible assumption | with_reducible refine Keep.alloc ?_ _ | with_reducible refine Keep.drew ?_ | with_reducible refine keep_set ?_ _ _ | with_reducible refine Keep.up ?_ (by assumption)))
                  · rw [HF.out]
                    refine ⟨?_, ?_, ?_, ?_, ?_, ?_, ?_, ?_, ?_, ?_, ?_, ?_⟩ <;> (go_simp <;> rfl)
                case measure => simp [intOf]; omega
              · go_wp2_with fail
                refine (apply_bad _ _ _ _ _ _ _ _ _ hg).mono ?_
                rintro e w9 ⟨rfl, u9⟩
                have u9' : Up wr w9 := Up.trans ((Up.refl wr).alloc _) u9
                obtain ⟨x0, x1, x2, x3, x4, x5, _, _, _, _, _, _⟩ := (CC8.out.near HN.out (by omega) (by omega)).up u9' (by omega)
                obtain ⟨y0, y1, y2, y3, y4, y5, _, _, _, _, _, _⟩ := (CW8.out.near HN.out (by omega) (by omega)).up u9' (by omega)
                have hz9 := u9'.size
                have zy1 : wm.heap.size < w9.heap.size := by omega
                have zy2 : w6.heap.size < w9.heap.size := by omega
                dsimp only at x2 x3 x4 x5 y2 y3 y4 y5
                go_wp2
                go_ret
                exact ⟨by simp, (UQ'.out.trans UQ7).trans ((Up.keep U78 HN.out (fun i hi => Nat.le_of_eq hi.symm)).trans (u9'.alloc _))⟩
            · obtain rfl : j = D.length := by omega
              rw [List.take_length, HFD.out] at hc
              have HNN := Lib.hid hn
              obtain ⟨g0, g1, g2, g3, g4, g5, _, _, _, _, _, _⟩ := hc
              obtain ⟨x0, x1, x2, x3, x4, x5, _, _, _, _, _, _⟩ := CC8.out.near hn (by omega) (by omega)
              obtain ⟨y0, y1, y2, y3, y4, y5, _, _, _, _, _, _⟩ := CW8.out.near hn (by omega) (by omega)
              obtain ⟨k0, k1, k2, k3, k4, k5, m0, m1, m2, m3, m4, m5⟩ := TK.out w8 UQ8
              have b2 := (Near.at_ hn (w.heap.size + 1) (by omega) (by omega)).1
              dsimp only at g2 g3 g4 g5 x2 x3 x4 x5 y2 y3 y4 y5
              clear hn
              go_wp2
              go_ret
              exact ⟨by simp, (UQ'.out.trans UQ7).trans (Up.keep U78 HNN.out (fun i hi => Nat.le_of_eq hi.symm))⟩
end Go.Proofs.Ytockighgdkebaaa
