/-
  Plain: what a beginning of bytes says, the bytes say. No condition.
-/
import Derived.Test.YtahlilogobfhcaaOrd11
namespace Go.Proofs.Ytahlilogobfhcaa
open Go.RowKit
set_option linter.unusedVariables false
set_option linter.unusedSimpArgs false

/-- x, but that y's text may go on -/
def Cutt (x y : OpP) : Prop := x.kind = 0 ∧ y.kind = 0 ∧ x.tx.length ≤ y.tx.length ∧ x = { y with tx := y.tx.take x.tx.length }
theorem txtN_app (q s : List Int) : (txtN q < q.length ∧ txtN (q ++ s) = txtN q) ∨ (txtN q = q.length ∧ txtN q ≤ txtN (q ++ s)) := by
  induction q with
  | nil => exact .inr ⟨rfl, by simp [txtN]⟩
  | cons x q ih =>
    cases ho : isOrd x
    · have e1 : txtN (x :: q) = txtN q + 1 := by conv => lhs; unfold txtN; rw [ho]; simp
      have e2 : txtN (x :: q ++ s) = txtN (q ++ s) + 1 := by
        show txtN (x :: (q ++ s)) = _
        conv => lhs; unfold txtN; rw [ho]; simp
      rw [e1, e2]
      simp only [List.length_cons]
      rcases ih with ⟨h1, h2⟩ | ⟨h1, h2⟩
      · exact .inl ⟨by omega, by omega⟩
      · exact .inr ⟨by omega, by omega⟩
    · have e1 : txtN (x :: q) = 0 := by unfold txtN; rw [ho]; simp
      have e2 : txtN (x :: q ++ s) = 0 := by
        show txtN (x :: (q ++ s)) = 0
        unfold txtN; rw [ho]; simp
      exact .inl ⟨by rw [e1]; simp, by rw [e1, e2]⟩
theorem getD_app {q s : List Int} {i : Nat} (h : i < q.length) : (q ++ s).getD i 0 = q.getD i 0 := by
  rw [List.getD, List.getD, List.getElem?_append_left h]
theorem drop_app {q s : List Int} {k : Nat} (h : k ≤ q.length) : (q ++ s).drop k = q.drop k ++ s := by
  rw [List.drop_append_of_le_length h]
theorem take_app {q s : List Int} {k : Nat} (h : k ≤ q.length) : (q ++ s).take k = q.take k := List.take_append_of_le_length h
theorem badTail_app {q s : List Int} (h : badTail q = false) : badTail (q ++ s) = false := by
  match q with
  | [] => simp [badTail] at h
  | x :: l =>
    show badTail (x :: (l ++ s)) = false
    unfold badTail at h ⊢
    simp only at h ⊢
    split
    · rename_i hx
      rw [if_pos hx] at h
      match l with
      | [] => simp at h
      | y :: l' => exact h
    · rename_i hx
      rw [if_neg hx] at h
      exact h
theorem badTail_len {q : List Int} (h : badTail q = false) : 1 ≤ q.length ∧ (q.getD 0 0 = 8 → 2 ≤ q.length) := by
  match q with
  | [] => simp [badTail] at h
  | [x] =>
    refine ⟨by simp, fun e => ?_⟩
    have e : x = 8 := e
    subst e
    simp [badTail] at h
  | x :: y :: l => exact ⟨by simp, fun _ => by simp⟩
theorem pairs_app {q s : List Int} (h : 1 + 2 * numP q ≤ q.length) : numP (q ++ s) = numP q ∧ pairs (q ++ s) (numP q) = pairs q (numP q) := by
  have e : numP (q ++ s) = numP q := by unfold numP; rw [getD_app (by omega)]
  refine ⟨e, ?_⟩
  unfold pairs
  refine List.map_congr_left fun i hi => ?_
  have := List.mem_range.1 hi
  unfold pairAt
  rw [getD_app (by omega), getD_app (by omega)]
theorem one_app {q r s : List Int} {o : OpP} (h : one q = some (o, r)) : one (q ++ s) = some (o, r ++ s) ∨ (r = [] ∧ ∃ o' r', one (q ++ s) = some (o', r') ∧ Cutt o o') := by
  match q, h with
  | x :: q, h =>
    show one (x :: (q ++ s)) = _ ∨ (_ ∧ ∃ o' r', one (x :: (q ++ s)) = _ ∧ _)
    unfold one at h ⊢
    simp only at h ⊢
    by_cases ho : isOrd x = false
    · rw [if_pos ho] at h ⊢
      injection h with h
      injection h with h1 h2
      subst h1 h2
      rw [show x :: (q ++ s) = (x :: q) ++ s from rfl]
      rcases txtN_app (x :: q) s with ⟨h1, h2⟩ | ⟨h1, h2⟩
      · left
        rw [h2, take_app (by omega), drop_app (by omega)]
      · right
        refine ⟨by rw [h1]; exact List.drop_length, _, _, rfl, rfl, rfl, ?_, ?_⟩
        · have := txtN_le (x :: q ++ s)
          simp only [List.length_take]
          omega
        · have := txtN_le (x :: q ++ s)
          congr 1
          simp only [List.length_take]
          rw [List.take_take, show min (min (txtN (x :: q)) (x :: q).length) (txtN (x :: q ++ s)) = (x :: q).length by omega, h1, List.take_length, List.take_left]
    · left
      rw [if_neg ho] at h ⊢
      by_cases h1 : x = 17 ∨ x = 18
      · rw [if_pos h1] at h ⊢
        split at h
        · cases h
        · rename_i hd
          simp only [not_or, Nat.not_lt] at hd
          obtain ⟨d1, d2⟩ := hd
          rw [if_neg (by rw [getD_app (by omega)]; simp only [not_or, List.length_append, Nat.not_lt]; exact ⟨by omega, d2⟩)]
          injection h with h
          injection h with e1 e2
          rw [← e1, ← e2, getD_app (by omega), getD_app (by omega), drop_app (by omega)]
      rw [if_neg h1] at h ⊢
      by_cases h2 : x = 60
      · rw [if_pos h2] at h ⊢
        split at h
        · cases h
        · rename_i hd
          simp only [not_or, Nat.not_lt] at hd
          obtain ⟨d1, d2, d3⟩ := hd
          have d3' : badTail (q.drop 2) = false := by simpa using d3
          obtain ⟨l1, l2⟩ := badTail_len d3'
          simp only [List.length_drop] at l1 l2
          have g2 : (q.drop 2).getD 0 0 = q.getD 2 0 := by simp [List.getD, List.getElem?_drop]
          rw [g2] at l2
          rw [if_neg (by
            rw [getD_app (by omega), drop_app (by omega), badTail_app d3']
            simp only [not_or, List.length_append, Nat.not_lt]
            exact ⟨by omega, d2, by simp⟩)]
          rw [getD_app (i := 2) (by omega), getD_app (i := 0) (by omega), getD_app (i := 1) (by omega)]
          split at h
          · rename_i h8
            have := l2 h8
            rw [if_pos h8, getD_app (i := 3) (by omega), drop_app (by omega)]
            injection h with h
            injection h with e1 e2
            rw [← e1, ← e2]
          · rename_i h8
            rw [if_neg h8, drop_app (by omega)]
            injection h with h
            injection h with e1 e2
            rw [← e1, ← e2]
      rw [if_neg h2] at h ⊢
      by_cases h3 : x = 29
      · rw [if_pos h3] at h ⊢
        split at h
        · cases h
        · rename_i hd
          have hl : 0 < q.length := List.length_pos_iff.2 hd
          rw [if_neg (by simp [hd]), getD_app hl, drop_app (by omega)]
          injection h with h
          injection h with e1 e2
          rw [← e1, ← e2]
      rw [if_neg h3] at h ⊢
      by_cases h4 : x = 40
      · rw [if_pos h4] at h ⊢
        split at h
        · cases h
        · rename_i hd
          simp only [not_or, Nat.not_lt] at hd
          obtain ⟨d1, d2⟩ := hd
          rw [getD_app (by omega), getD_app (by omega), if_neg (by simp only [not_or, List.length_append, Nat.not_lt]; exact ⟨by omega, d2⟩), drop_app (by omega)]
          injection h with h
          injection h with e1 e2
          rw [← e1, ← e2]
      rw [if_neg h4] at h ⊢
      by_cases h5 : x = 41 ∨ x = 44
      · rw [if_pos h5] at h ⊢
        split at h
        · cases h
        · rename_i hd
          simp only [not_or, Nat.not_lt] at hd
          obtain ⟨d1, d2⟩ := hd
          obtain ⟨p1, p2⟩ := pairs_app (s := s) d1
          have hg : goodP (q ++ s) = goodP q := by unfold goodP; rw [p1, p2]
          rw [hg, p1, p2, if_neg (by simp only [not_or, List.length_append, Nat.not_lt]; exact ⟨by omega, d2⟩), drop_app (by omega)]
          injection h with h
          injection h with e1 e2
          rw [← e1, ← e2]
      rw [if_neg h5] at h ⊢
      by_cases h6 : x = 8
      · rw [if_pos h6] at h ⊢
        split at h
        · cases h
        · rename_i hd
          simp only [not_or] at hd
          obtain ⟨d1, d2⟩ := hd
          have hl : 0 < q.length := List.length_pos_iff.2 d1
          rw [getD_app hl, if_neg (by simp only [not_or]; exact ⟨by simp [d1], d2⟩), drop_app (by omega)]
          injection h with h
          injection h with e1 e2
          rw [← e1, ← e2]
      rw [if_neg h6] at h ⊢
      injection h with h
      injection h with e1 e2
      rw [← e1, ← e2]
/-- one after the other alike, but that the last text may go on -/
def Pre (F G : List OpP) : Prop := F.length ≤ G.length ∧ ∀ i x y, F[i]? = some x → G[i]? = some y → x = y ∨ (i + 1 = F.length ∧ Cutt x y)
theorem ords_app (n : Nat) : ∀ q s : List Int, q.length ≤ n → Pre (ordsOf q).1 (ordsOf (q ++ s)).1 := by
  induction n with
  | zero =>
    intro q s hq
    have : q = [] := List.eq_nil_of_length_eq_zero (by omega)
    subst this
    exact ⟨by simp [ordsOf, allP], fun i x y h => by simp [ordsOf, allP] at h⟩
  | succ n ih =>
    intro q s hq
    cases h : one q with
    | none =>
      rw [ords_none h]
      exact ⟨by simp, fun i x y h => by simp at h⟩
    | some t =>
      obtain ⟨o, r⟩ := t
      have hs := one_short h
      rw [ords_some h]
      rcases one_app (s := s) h with h2 | ⟨rfl, o', r', h2, hc⟩
      · rw [ords_some h2]
        obtain ⟨i1, i2⟩ := ih r s (by omega)
        refine ⟨by simp; exact i1, fun i x y hx hy => ?_⟩
        cases i with
        | zero =>
          simp at hx hy
          left; rw [← hx, ← hy]
        | succ i =>
          simp at hx hy
          rcases i2 i x y (by simpa using hx) (by simpa using hy) with h3 | ⟨h3, h4⟩
          · exact .inl h3
          · exact .inr ⟨by simp; omega, h4⟩
      · rw [ords_some h2]
        refine ⟨by simp [ordsOf, allP], fun i x y hx hy => ?_⟩
        cases i with
        | zero =>
          simp at hx hy
          right
          rw [← hx, ← hy]
          exact ⟨by simp [ordsOf, allP], hc⟩
        | succ i => simp [ordsOf, allP] at hx
end Go.Proofs.Ytahlilogobfhcaa
