/-
  A slice of bytes that stands in a struct's field, opened off a row. No condition.
  Slices of acts and a cell that came in, opened off a row. No condition.
  An act of layer 14 that came in by value, opened off a row. No condition.
  Acts of layer 14 that came in in a slice, opened off a row. No condition.
-/
import Derived.Test.YtjokcfenncogkaaOpen
import Derived.Test.YtjokcfenncogkaaLay0

import Derived.Test.YtjokcfenncogkaaSame14
namespace Go.Proofs.Ytjokcfenncogkaa
open Go.ChangeShapes Go.WideShapes Go.ChangeAt Go.RowKit Go.Joins Go.Deep
set_option linter.unusedVariables false
set_option linter.unusedSimpArgs false
section
variable {H : Type} {enc : TypeId × Value → H} {P : Program} {w : World} {base : Nat} {spare : Nat → Bool} {held : Bool}
theorem open_bytes_cell {t e : TypeId} {k : IntKind} {lo hi : Int} {fuel : Nat} {v : Value} {x : DataW H × List MemPlace} (ht : P.underlying t = some (.slice e)) (he : P.underlying e = some (.int k)) (hC : P.cellsOf e = 1)
    (hwf : ∀ z : Int, (Lit.int k z).wf = true → lo ≤ z ∧ z ≤ hi) (h : DataW.trod enc P w base spare held fuel t [v] = some x) :
    ∃ (A : Option Addr) (n c : Nat), v = .slice A n c ∧ ∃ l : List Int, l.length = n ∧ n ≤ c ∧ c ≤ maxLen ∧ (∀ z ∈ l, lo ≤ z ∧ z ≤ hi) ∧ Reads w w.heap.size 1 A n (l.map (Value.int k)) := by
  rcases open_ints ht he hC h with ⟨hcs, _⟩ | ⟨a, len, cap, zs, hcs, _⟩
  · injection hcs with hcs _
    subst hcs
    exact ⟨_, _, _, rfl, open_bytes ht he hC hwf (by simpa [Value.cells] using h)⟩
  · injection hcs with hcs _
    subst hcs
    exact ⟨_, _, _, rfl, open_bytes ht he hC hwf (by simpa [Value.cells] using h)⟩
end
end Go.Proofs.Ytjokcfenncogkaa
namespace Go.Proofs.Ytjokcfenncogkaa
open Go.ChangeShapes Go.WideShapes Go.ChangeAt Go.RowKit Go.Joins Go.Deep
set_option linter.unusedVariables false
set_option linter.unusedSimpArgs false

section
variable {H : Type} {enc : TypeId × Value → H} {P : Program} {w : World} {base : Nat} {spare : Nat → Bool} {held : Bool}
/-- a field's own cells -/
theorem field_at {t : TypeId} {fs : Array Field} {fuel : Nat} {cs : List Value} {x : DataW H × List MemPlace} (hs : P.underlying t = some (.struct fs)) (hf : DataW.trod enc P w base spare held fuel t cs = some x) (j : Nat) (f : Field) (hj : fs[j]? = some f) {k : Nat} (hk : P.cellsOf f.type = k) :
    ∃ n y, DataW.trod enc P w base spare held n f.type ((cs.drop f.offset).take k) = some y := by
  obtain ⟨ys, n, _, _, _, hyl, hg⟩ := DataW.trod_struct hs hf
  have hjl : j < fs.size := (Array.getElem?_eq_some_iff.1 hj).1
  have h1 := hg j f hj
  rw [hk] at h1
  have hys : ys[j]? = some (ys[j]'(by omega)) := List.getElem?_eq_getElem (by omega)
  exact ⟨n, _, h1.trans hys⟩
theorem isB_of {x : Int} (h : (Lit.int .u8 x).wf = true) : isB x := by
  unfold isB
  simpa [Lit.wf, IntKind.min, IntKind.max, IntKind.signed, IntKind.bits] using h
theorem i64_of {x : Int} (h : (Lit.int .i64 x).wf = true) : -9223372036854775808 ≤ x ∧ x ≤ 9223372036854775807 := by
  simpa [Lit.wf, IntKind.min, IntKind.max, IntKind.signed, IntKind.bits] using h
end
section
variable {H : Type} {enc : TypeId × Value → H} {w : World} {base : Nat} {spare : Nat → Bool} {held : Bool}
/-- a cell -/
theorem open_cell {fuel : Nat} {c0 c1 c2 c3 c4 c5 : Value} {x : DataW H × List MemPlace} (hf : DataW.trod enc Try.prog w base spare held fuel 25 [c0, c1, c2, c3, c4, c5] = some x) :
    ∃ c : Cl, c.Wf ∧ c.enc = [c0, c1, c2, c3, c4, c5] := by
  obtain ⟨n0, y0, h0⟩ := field_at Try.underlying25 hf 0 _ rfl (k := 1) (by kernel_rfl)
  obtain ⟨n1, y1, h1⟩ := field_at Try.underlying25 hf 1 _ rfl (k := 1) (by kernel_rfl)
  obtain ⟨n2, y2, h2⟩ := field_at Try.underlying25 hf 2 _ rfl (k := 1) (by kernel_rfl)
  obtain ⟨n3, y3, h3⟩ := field_at Try.underlying25 hf 3 _ rfl (k := 1) (by kernel_rfl)
  obtain ⟨n4, y4, h4⟩ := field_at Try.underlying25 hf 4 _ rfl (k := 1) (by kernel_rfl)
  obtain ⟨n5, y5, h5⟩ := field_at Try.underlying25 hf 5 _ rfl (k := 1) (by kernel_rfl)
  replace h0 : DataW.trod enc Try.prog w base spare held n0 5 [c0] = some y0 := h0
  replace h1 : DataW.trod enc Try.prog w base spare held n1 4 [c1] = some y1 := h1
  replace h2 : DataW.trod enc Try.prog w base spare held n2 5 [c2] = some y2 := h2
  replace h3 : DataW.trod enc Try.prog w base spare held n3 5 [c3] = some y3 := h3
  replace h4 : DataW.trod enc Try.prog w base spare held n4 5 [c4] = some y4 := h4
  replace h5 : DataW.trod enc Try.prog w base spare held n5 5 [c5] = some y5 := h5
  obtain ⟨a0, e0, _, w0⟩ := DataW.trod_int Try.underlying5 h0
  obtain ⟨a1, e1, _⟩ := DataW.trod_bool Try.underlying4 h1
  obtain ⟨a2, e2, _, w2⟩ := DataW.trod_int Try.underlying5 h2
  obtain ⟨a3, e3, _, w3⟩ := DataW.trod_int Try.underlying5 h3
  obtain ⟨a4, e4, _, w4⟩ := DataW.trod_int Try.underlying5 h4
  obtain ⟨a5, e5, _, w5⟩ := DataW.trod_int Try.underlying5 h5
  injection e0 with e0; injection e1 with e1; injection e2 with e2; injection e3 with e3; injection e4 with e4; injection e5 with e5
  subst e0 e1 e2 e3 e4 e5
  exact ⟨⟨a0, a1, a2, a3, a4, a5⟩, ⟨isB_of w0, isB_of w2, isB_of w3, isB_of w4, isB_of w5⟩, rfl⟩
/-- an act -/
theorem open_act {fuel : Nat} {c0 c1 c2 c3 c4 c5 c6 c7 c8 c9 c10 : Value} {x : DataW H × List MemPlace} (hf : DataW.trod enc Try.prog w base spare held fuel 35 [c0, c1, c2, c3, c4, c5, c6, c7, c8, c9, c10] = some x) :
    ∃ r : ActR, r.Ok w w.heap.size ∧ r.enc = [c0, c1, c2, c3, c4, c5, c6, c7, c8, c9, c10] := by
  obtain ⟨n0, y0, h0⟩ := field_at Try.underlying35 hf 0 _ rfl (k := 1) (by kernel_rfl)
  obtain ⟨n1, y1, h1⟩ := field_at Try.underlying35 hf 1 _ rfl (k := 1) (by kernel_rfl)
  obtain ⟨n2, y2, h2⟩ := field_at Try.underlying35 hf 2 _ rfl (k := 1) (by kernel_rfl)
  obtain ⟨n3, y3, h3⟩ := field_at Try.underlying35 hf 3 _ rfl (k := 1) (by kernel_rfl)
  obtain ⟨n4, y4, h4⟩ := field_at Try.underlying35 hf 4 _ rfl (k := 6) (by kernel_rfl)
  obtain ⟨n5, y5, h5⟩ := field_at Try.underlying35 hf 5 _ rfl (k := 1) (by kernel_rfl)
  replace h0 : DataW.trod enc Try.prog w base spare held n0 5 [c0] = some y0 := h0
  replace h1 : DataW.trod enc Try.prog w base spare held n1 3 [c1] = some y1 := h1
  replace h2 : DataW.trod enc Try.prog w base spare held n2 4 [c2] = some y2 := h2
  replace h3 : DataW.trod enc Try.prog w base spare held n3 5 [c3] = some y3 := h3
  replace h4 : DataW.trod enc Try.prog w base spare held n4 25 [c4, c5, c6, c7, c8, c9] = some y4 := h4
  replace h5 : DataW.trod enc Try.prog w base spare held n5 33 [c10] = some y5 := h5
  obtain ⟨a0, e0, _, w0⟩ := DataW.trod_int Try.underlying5 h0
  obtain ⟨a1, e1, _, w1⟩ := DataW.trod_int Try.underlying3 h1
  obtain ⟨a2, e2, _⟩ := DataW.trod_bool Try.underlying4 h2
  obtain ⟨a3, e3, _, w3⟩ := DataW.trod_int Try.underlying5 h3
  obtain ⟨c, hcw, e4⟩ := open_cell h4
  obtain ⟨A, n, cap, e5, l, hl, hn, hc, hw, hr⟩ := open_bytes_cell (k := .u8) (lo := 0) (hi := 255) Try.underlying33 Try.underlying5 (by kernel_rfl) (fun x hx => isB_of hx) h5
  injection e0 with e0; injection e1 with e1; injection e2 with e2; injection e3 with e3
  subst e0 e1 e2 e3 e5
  subst hl
  refine ⟨⟨⟨a0, a1, a2, a3, c, l⟩, A, cap⟩, ⟨⟨isB_of w0, isB_of w3, hcw, hw⟩, hn, hc, hr⟩, ?_⟩
  simp only [ActR.enc]
  simp only [Cl.enc, List.cons.injEq, and_true] at e4
  obtain ⟨e40, e41, e42, e43, e44, e45⟩ := e4
  rw [e40, e41, e42, e43, e44, e45]
theorem len11 {α : Type} {l : List α} (h : l.length = 11) : ∃ x0 x1 x2 x3 x4 x5 x6 x7 x8 x9 x10, l = [x0, x1, x2, x3, x4, x5, x6, x7, x8, x9, x10] := by
  match l, h with
  | [x0, x1, x2, x3, x4, x5, x6, x7, x8, x9, x10], _ => exact ⟨x0, x1, x2, x3, x4, x5, x6, x7, x8, x9, x10, rfl⟩
/-- a slice of acts -/
theorem open_acts {fuel : Nat} {A : Option Addr} {n c : Nat} {x : DataW H × List MemPlace} (h : DataW.trod enc Try.prog w base spare held fuel 22 (Value.slice A n c).cells.toList = some x) :
    ∃ l : List ActR, l.length = n ∧ n ≤ c ∧ c ≤ maxLen ∧ (∀ x ∈ l, x.Ok w w.heap.size) ∧ Reads w w.heap.size 11 A n (l.flatMap ActR.enc) := by
  rcases open_slice Try.underlying22 h with ⟨hcs, _⟩ | ⟨a, len, cap, m, n', D, Pl, hcs, hb, hl, hm, hmm, _, hi⟩
  · simp [Value.cells] at hcs
    obtain ⟨rfl, rfl, rfl⟩ := hcs
    exact ⟨[], rfl, Nat.le_refl _, by simp [maxLen], by simp, Reads.none_⟩
  · simp [Value.cells] at hcs
    obtain ⟨rfl, rfl, rfl⟩ := hcs
    have hge : n ≤ m := by rw [hmm]; split <;> omega
    have hC : Try.prog.cellsOf 35 = 11 := by kernel_rfl
    obtain ⟨L, h1, h2, h3⟩ := reads_rows (w := w) (k := 11) (n := n) (enc := ActR.enc) (Q := fun x => x.Ok w w.heap.size) (fun _ => rfl) (by omega) a (fun i hin => by
      obtain ⟨cs', hc, ht'⟩ := hi i (by omega)
      rw [hC] at hc
      obtain ⟨_, hcl, hat⟩ := World.cells?_some hc
      obtain ⟨x0, x1, x2, x3, x4, x5, x6, x7, x8, x9, x10, rfl⟩ := len11 hcl
      obtain ⟨r, hr, hre⟩ := open_act ht'
      refine ⟨r, hr, fun j u hu => ?_⟩
      rw [hre] at hu
      have hj : j < 11 := (List.getElem?_eq_some_iff.1 hu).1
      rw [← add_of_add, hat j hj, hu])
    exact ⟨L, h1, hl, hm, h2, h3⟩
end
end Go.Proofs.Ytjokcfenncogkaa
namespace Go.Proofs.Ytjokcfenncogkaa
open Go.ChangeShapes Go.WideShapes Go.ChangeAt Go.RowKit Go.Joins Go.Deep
set_option linter.unusedVariables false
set_option linter.unusedSimpArgs false
section
variable {H : Type} {enc : TypeId × Value → H} {w : World} {base : Nat} {spare : Nat → Bool} {held : Bool}
theorem len9 {α : Type} {l : List α} (h : l.length = 9) : ∃ x0 x1 x2 x3 x4 x5 x6 x7 x8, l = [x0, x1, x2, x3, x4, x5, x6, x7, x8] := by
  match l, h with
  | [x0, x1, x2, x3, x4, x5, x6, x7, x8], _ => exact ⟨x0, x1, x2, x3, x4, x5, x6, x7, x8, rfl⟩
theorem open_act14 {fuel : Nat} {c0 c1 c2 c3 c4 c5 c6 c7 c8 : Value} {x : DataW H × List MemPlace} (hf : DataW.trod enc Try.prog w base spare held fuel 110 [c0, c1, c2, c3, c4, c5, c6, c7, c8] = some x) :
    ∃ (d n t : Int) (c : Cl), (isB d ∧ (-9223372036854775808 ≤ n ∧ n ≤ 9223372036854775807) ∧ (-9223372036854775808 ≤ t ∧ t ≤ 9223372036854775807) ∧ c.Wf) ∧ [Value.int .u8 d, .int .i64 n, .int .i64 t] ++ c.enc = [c0, c1, c2, c3, c4, c5, c6, c7, c8] := by
  obtain ⟨n0, y0, h0⟩ := field_at Try.underlying110 hf 0 _ rfl (k := 1) (by kernel_rfl)
  obtain ⟨n1, y1, h1⟩ := field_at Try.underlying110 hf 1 _ rfl (k := 1) (by kernel_rfl)
  obtain ⟨n2, y2, h2⟩ := field_at Try.underlying110 hf 2 _ rfl (k := 1) (by kernel_rfl)
  obtain ⟨n3, y3, h3⟩ := field_at Try.underlying110 hf 3 _ rfl (k := 6) (by kernel_rfl)
  replace h0 : DataW.trod enc Try.prog w base spare held n0 5 [c0] = some y0 := h0
  replace h1 : DataW.trod enc Try.prog w base spare held n1 3 [c1] = some y1 := h1
  replace h2 : DataW.trod enc Try.prog w base spare held n2 3 [c2] = some y2 := h2
  replace h3 : DataW.trod enc Try.prog w base spare held n3 25 [c3, c4, c5, c6, c7, c8] = some y3 := h3
  obtain ⟨a0, e0, _, w0⟩ := DataW.trod_int Try.underlying5 h0
  obtain ⟨a1, e1, _, w1⟩ := DataW.trod_int Try.underlying3 h1
  obtain ⟨a2, e2, _, w2⟩ := DataW.trod_int Try.underlying3 h2
  obtain ⟨c, hcw, e3⟩ := open_cell h3
  injection e0 with e0; injection e1 with e1; injection e2 with e2
  subst e0 e1 e2
  exact ⟨a0, a1, a2, c, ⟨isB_of w0, i64_of w1, i64_of w2, hcw⟩, by rw [e3]; rfl⟩
end
end Go.Proofs.Ytjokcfenncogkaa
namespace Go.Proofs.Ytjokcfenncogkaa
open Go.ChangeShapes Go.WideShapes Go.ChangeAt Go.RowKit Go.Joins Go.Deep
set_option linter.unusedVariables false
set_option linter.unusedSimpArgs false
section
variable {H : Type} {enc : TypeId × Value → H} {w : World} {base : Nat} {spare : Nat → Bool} {held : Bool}
theorem open_acts14 {fuel : Nat} {A : Option Addr} {n c : Nat} {x : DataW H × List MemPlace} (h : DataW.trod enc Try.prog w base spare held fuel 113 (Value.slice A n c).cells.toList = some x) :
    ∃ l : List A14, l.length = n ∧ n ≤ c ∧ c ≤ maxLen ∧ (∀ x ∈ l, x.Ok) ∧ Reads w w.heap.size 9 A n (l.flatMap A14.enc) := by
  rcases open_slice Try.underlying113 h with ⟨hcs, _⟩ | ⟨a, len, cap, m, n', D, Pl, hcs, hb, hl, hm, hmm, _, hi⟩
  · simp [Value.cells] at hcs
    obtain ⟨rfl, rfl, rfl⟩ := hcs
    exact ⟨[], rfl, Nat.le_refl _, by simp [maxLen], by simp, Reads.none_⟩
  · simp [Value.cells] at hcs
    obtain ⟨rfl, rfl, rfl⟩ := hcs
    have hge : n ≤ m := by rw [hmm]; split <;> omega
    have hC : Try.prog.cellsOf 110 = 9 := by kernel_rfl
    obtain ⟨L, h1, h2, h3⟩ := reads_rows (w := w) (k := 9) (n := n) (enc := A14.enc) (Q := fun x => x.Ok) (fun _ => rfl) (by omega) a (fun i hin => by
      obtain ⟨cs', hc, ht'⟩ := hi i (by omega)
      rw [hC] at hc
      obtain ⟨_, hcl, hat⟩ := World.cells?_some hc
      obtain ⟨x0, x1, x2, x3, x4, x5, x6, x7, x8, rfl⟩ := len9 hcl
      obtain ⟨d, n', t, c, ho, hre⟩ := open_act14 ht'
      refine ⟨⟨d, n', t, c⟩, ho, fun j u hu => ?_⟩
      rw [show A14.enc ⟨d, n', t, c⟩ = _ from hre] at hu
      have hj : j < 9 := (List.getElem?_eq_some_iff.1 hu).1
      rw [← add_of_add, hat j hj, hu])
    exact ⟨L, h1, hl, hm, h2, h3⟩
end
end Go.Proofs.Ytjokcfenncogkaa
