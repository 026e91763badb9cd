/-
  What the walk of law 21's SfieldReads needs besides: lists cut short, lists beside a text that is written. No condition.
-/
import Derived.Test.YtfambgigdhkiaaaDoorLFlds
import Derived.Test.YtfambgigdhkiaaaDoorSAll
import Derived.Test.YtfambgigdhkiaaaDoorRActs
import Derived.Test.YtfambgigdhkiaaaDoorRSame
import Derived.Test.YtfambgigdhkiaaaDoorLaw21b
import Derived.Test.YtfambgigdhkiaaaDoorFlip
namespace Go.Proofs.YtfambgigdhkiaaaDoor
open Go.RowKit
set_option linter.unusedVariables false
set_option linter.unusedSimpArgs false

section
variable {α : Type} {e : TypeId} {k : Nat} {cells : α → List Value} {inn : α → List Inn} {B : Nat} {w w' : World} {A : Option Addr} {c : Nat} {xs : List α}
theorem FL.beside (h : FL e k cells inn B w A c xs) {row : Option Nat} (hg : w.grownBy w' row) (hr : ∀ g, row = some g → g < B) : FL e k cells inn B w' A c xs :=
  ⟨own_grown h.own hg (fun g e1 e2 => by have := hr g e2; have := own_bd h.own g e1; omega), h.le, h.mx, fun x hx s hs => (h.good x hx s hs).stay2 hg.size fun p hp => hg.block _ ((h.good x hx s hs).lt hp) fun e2 => by
    have h1 := hr _ e2.symm
    have h2 := (h.good x hx s hs).at_ p hp
    omega⟩
theorem flat_take (hk : ∀ x, (cells x).length = k) : ∀ (m : Nat) (xs : List α), (xs.flatMap cells).take (m * k) = (xs.take m).flatMap cells
  | 0, xs => by simp
  | m + 1, [] => by simp
  | m + 1, x :: xs => by
    rw [List.flatMap_cons, List.take_succ_cons, List.flatMap_cons, List.take_append, hk, List.take_of_length_le (by rw [hk, Nat.succ_mul]; omega), show (m + 1) * k - k = m * k by rw [Nat.succ_mul]; omega, flat_take hk m xs]
theorem FL.take (h : FL e k cells inn B w A c xs) (hk : ∀ x, (cells x).length = k) {m : Nat} (hm : m ≤ xs.length) : FL e k cells inn B w A c (xs.take m) := by
  have hl : (xs.take m).length = m := by rw [List.length_take]; omega
  refine ⟨?_, by rw [hl]; exact Nat.le_trans hm h.le, h.mx, fun x hx => h.good x (List.mem_of_mem_take hx)⟩
  rw [hl]
  refine ⟨by rw [flatMap_len' hk, hl], ?_⟩
  rcases h.own.2 with ⟨e1, e2⟩ | ⟨g, cap, cur, e1, e2, e3, e4, e5, e6, e7⟩
  · injection e1 with e1 e3 e4
    subst e1; subst e4
    exact .inl ⟨by rw [show m = 0 by omega], by omega⟩
  · injection e1 with e1 _ e1c
    subst e1; subst e1c
    refine .inr ⟨g, _, cur, rfl, e2, e3, by omega, e5, e6, ?_⟩
    rw [← flat_take hk m xs, ← e7, List.take_take]
    congr 1
    exact (Nat.min_eq_left (Nat.mul_le_mul_right k hm)).symm
end
theorem fldsM_big {l : List Int} {m : Nat} (h : l.length < m) : fldsM l m = fldsOf l := by
  unfold fldsM
  rw [if_neg (by have := flds_len l; omega)]
theorem fldsM_take (l : List Int) (m : Nat) : (fldsM l m).1 = (fldsOf l).1.take (min (fldsOf l).1.length m) := by
  unfold fldsM
  split
  · rw [Nat.min_eq_right (by assumption)]
  · rw [Nat.min_eq_left (by omega), List.take_length]
end Go.Proofs.YtfambgigdhkiaaaDoor
