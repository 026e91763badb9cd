/-
  Rows of structs, as they lie; the fields of a list. No condition.
-/
import Derived.Test.YtfknakcjhlonoaaFL
namespace Go.Proofs.Ytfknakcjhlonoaa
open Go.RowKit
set_option linter.unusedVariables false
set_option linter.unusedSimpArgs false

theorem flatMap_len' {α : Type} {k : Nat} {enc : α → List Value} (hk : ∀ x, (enc x).length = k) : ∀ L : List α, (L.flatMap enc).length = L.length * k
  | [] => by simp
  | x :: L => by rw [List.flatMap_cons, List.length_append, hk, flatMap_len' hk L, List.length_cons, Nat.succ_mul]; omega
/-- a row of a list of structs, as it lies -/
theorem row_at {α : Type} {k : Nat} {enc : α → List Value} (hk : ∀ x, (enc x).length = k) {w : World} {B b off n : Nat} {L : List α} (h : Reads w B k (some ⟨b, off, none⟩) n (L.flatMap enc)) {j : Nat} {x : α} (hj : L[j]? = some x) (h0 : 0 < k) :
    ∀ i u, (enc x)[i]? = some u → w.cell? ⟨b, off + j * k + i, none⟩ = some u := by
  intro i u hu
  have hjl := (List.getElem?_eq_some_iff.1 hj).1
  have hL : L.length = n := by have := h.1; rw [flatMap_len' hk] at this; exact Nat.eq_of_mul_eq_mul_right h0 this
  obtain ⟨b', off', e, hb, hc⟩ := h.2 (by omega)
  injection e with e
  injection e with e1 e2 _
  subst e1; subst e2
  rw [Nat.add_assoc]
  refine hc _ u ?_
  have hi : i < k := by have := (List.getElem?_eq_some_iff.1 hu).1; rw [hk] at this; exact this
  clear hc h hL
  induction L generalizing j with
  | nil => simp at hj
  | cons y L ih =>
    rw [List.flatMap_cons]
    cases j with
    | zero =>
      simp at hj
      subst hj
      rw [List.getElem?_append_left (by rw [hk]; omega)]
      simpa using hu
    | succ j =>
      rw [List.getElem?_append_right (by rw [hk, Nat.succ_mul]; omega), hk]
      rw [show (j + 1) * k + i - k = j * k + i by rw [Nat.succ_mul]; omega]
      exact ih (by simpa using hj) (by simp at hjl; omega)
theorem rf_at {e : TypeId} {B : Nat} {w : World} {A : Option Addr} {c : Nat} {xs : List RF} (h : FL e 2 RF.cells RF.inn B w A c xs) {j : Nat} {x : RF} (hj : xs[j]? = some x) :
    ∃ b, A = some ⟨b, 0, none⟩ ∧ b < w.heap.size ∧ w.cell? ⟨b, j * 2, none⟩ = some (.int .u8 x.id) ∧ w.cell? ⟨b, j * 2 + 1, none⟩ = some (.slice x.A x.l.length x.c) ∧ Sl B w x.A x.l.length x.c x.l := by
  have hlt := (List.getElem?_eq_some_iff.1 hj).1
  have hr := Reads.of_own h.own
  rcases h.own.2 with ⟨e1, e2⟩ | ⟨g, cap, cur, e1, _, _⟩
  · omega
  · injection e1 with e1 _ _
    subst e1
    obtain ⟨b', off', e3, hb, _⟩ := hr.2 (by omega)
    injection e3 with e3
    injection e3 with e3 _ _
    subst e3
    have := row_at (enc := RF.cells) (k := 2) (fun _ => rfl) hr hj (by decide)
    have a0 := this 0 _ rfl
    have a1 := this 1 _ rfl
    rw [Nat.zero_add] at a0 a1
    exact ⟨g, rfl, hb, a0, a1, h.good x (List.mem_of_getElem? hj) _ (List.mem_singleton.2 rfl)⟩
end Go.Proofs.Ytfknakcjhlonoaa
