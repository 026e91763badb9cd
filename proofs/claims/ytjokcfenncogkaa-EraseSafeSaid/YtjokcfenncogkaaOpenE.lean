/-
  An act of layer 14 that came in by value, opened off a row. No condition.
-/
import Derived.Test.YtjokcfenncogkaaOpenA
namespace Go.Proofs.Ytjokcfenncogkaa
open Go.ChangeShapes Go.WideShapes Go.ChangeAt Go.RowKit Go.Joins Go.Deep
set_option linter.unusedVariables false
set_option linter.unusedSimpArgs false
section
variable {H : Type} {enc : TypeId × Value → H} {w : World} {base : Nat} {spare : Nat → Bool} {held : Bool}
theorem len9 {α : Type} {l : List α} (h : l.length = 9) : ∃ x0 x1 x2 x3 x4 x5 x6 x7 x8, l = [x0, x1, x2, x3, x4, x5, x6, x7, x8] := by
  match l, h with
  | [x0, x1, x2, x3, x4, x5, x6, x7, x8], _ => exact ⟨x0, x1, x2, x3, x4, x5, x6, x7, x8, rfl⟩
theorem open_act14 {fuel : Nat} {c0 c1 c2 c3 c4 c5 c6 c7 c8 : Value} {x : DataW H × List MemPlace} (hf : DataW.trod enc Try.prog w base spare held fuel 110 [c0, c1, c2, c3, c4, c5, c6, c7, c8] = some x) :
    ∃ (d n t : Int) (c : Cl), (isB d ∧ (-9223372036854775808 ≤ n ∧ n ≤ 9223372036854775807) ∧ (-9223372036854775808 ≤ t ∧ t ≤ 9223372036854775807) ∧ c.Wf) ∧ [Value.int .u8 d, .int .i64 n, .int .i64 t] ++ c.enc = [c0, c1, c2, c3, c4, c5, c6, c7, c8] := by
  obtain ⟨n0, y0, h0⟩ := field_at Try.underlying110 hf 0 _ rfl (k := 1) (by kernel_rfl)
  obtain ⟨n1, y1, h1⟩ := field_at Try.underlying110 hf 1 _ rfl (k := 1) (by kernel_rfl)
  obtain ⟨n2, y2, h2⟩ := field_at Try.underlying110 hf 2 _ rfl (k := 1) (by kernel_rfl)
  obtain ⟨n3, y3, h3⟩ := field_at Try.underlying110 hf 3 _ rfl (k := 6) (by kernel_rfl)
  replace h0 : DataW.trod enc Try.prog w base spare held n0 5 [c0] = some y0 := h0
  replace h1 : DataW.trod enc Try.prog w base spare held n1 3 [c1] = some y1 := h1
  replace h2 : DataW.trod enc Try.prog w base spare held n2 3 [c2] = some y2 := h2
  replace h3 : DataW.trod enc Try.prog w base spare held n3 25 [c3, c4, c5, c6, c7, c8] = some y3 := h3
  obtain ⟨a0, e0, _, w0⟩ := DataW.trod_int Try.underlying5 h0
  obtain ⟨a1, e1, _, w1⟩ := DataW.trod_int Try.underlying3 h1
  obtain ⟨a2, e2, _, w2⟩ := DataW.trod_int Try.underlying3 h2
  obtain ⟨c, hcw, e3⟩ := open_cell h3
  injection e0 with e0; injection e1 with e1; injection e2 with e2
  subst e0 e1 e2
  exact ⟨a0, a1, a2, c, ⟨isB_of w0, i64_of w1, i64_of w2, hcw⟩, by rw [e3]; rfl⟩
end
end Go.Proofs.Ytjokcfenncogkaa
