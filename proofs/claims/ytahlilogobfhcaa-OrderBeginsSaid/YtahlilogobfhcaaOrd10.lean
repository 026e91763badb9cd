/-
  One order of bytes, plain; what the scanner's op makes of any bytes. No condition but the slice's own reach.
-/
import Derived.Test.YtahlilogobfhcaaOrd9
namespace Go.Proofs.Ytahlilogobfhcaa
open Go.RowKit
set_option linter.unusedVariables false
set_option linter.unusedSimpArgs false

/-- the order that begins there, and what is left -/
def one : List Int → Option (OpP × List Int)
  | [] => none
  | x :: q =>
    if isOrd x = false then some (⟨0, 0, 0, false, 0, [], (x :: q).take (txtN (x :: q))⟩, (x :: q).drop (txtN (x :: q)))
    else if x = 17 ∨ x = 18 then (if q.length < 2 ∨ decE 12 (q.getD 0 0) ≠ 0 then none else some (⟨x, decN 12 (q.getD 0 0) (q.getD 1 0), 0, false, 0, [], []⟩, q.drop 2))
    else if x = 60 then (if q.length < 2 ∨ decE 12 (q.getD 0 0) ≠ 0 ∨ badTail (q.drop 2) = true then none
      else if q.getD 2 0 = 8 then some (⟨60, decN 12 (q.getD 0 0) (q.getD 1 0), q.getD 3 0, true, 0, [], []⟩, q.drop 4)
      else some (⟨60, decN 12 (q.getD 0 0) (q.getD 1 0), q.getD 2 0, false, 0, [], []⟩, q.drop 3))
    else if x = 29 then (if q = [] then none else some (⟨29, 0, 0, false, q.getD 0 0, [], []⟩, q.drop 1))
    else if x = 40 then (if q.length < 2 ∨ rightB (q.getD 0 0) (q.getD 1 0) = false then none else some (⟨40, 0, 0, false, 0, [(q.getD 0 0, q.getD 1 0)], []⟩, q.drop 2))
    else if x = 41 ∨ x = 44 then (if q.length < 1 + 2 * numP q ∨ goodP q = false then none else some (⟨x, 0, 0, false, 0, pairs q (numP q), []⟩, q.drop (1 + 2 * numP q)))
    else if x = 8 then (if q = [] ∨ isOrd (q.getD 0 0) = true then none else some (⟨8, 0, q.getD 0 0, false, 0, [], []⟩, q.drop 1))
    else some (⟨x, 0, 0, false, 0, [], []⟩, q)
theorem ord_or {x : Int} (h : isOrd x = true) : x = 5 ∨ x = 8 ∨ x = 17 ∨ x = 18 ∨ x = 19 ∨ x = 29 ∨ x = 40 ∨ x = 41 ∨ x = 44 ∨ x = 60 := by
  unfold isOrd at h
  simp only [Bool.or_eq_true, beq_iff_eq] at h
  omega
def AnyOp (w : World) (b : Nat) (l : List Int) (e : Ending) (w' : World) : Prop :=
  match one l with
  | some (o, r) => GoodOp w b r o e w'
  | none => BadOp w b e w'
theorem AnyOp.good {w : World} {b : Nat} {l r : List Int} {o : OpP} (h : one l = some (o, r)) : AnyOp w b l = GoodOp w b r o := by
  funext e w'
  unfold AnyOp
  rw [h]
theorem AnyOp.bad {w : World} {b : Nat} {l : List Int} (h : one l = none) : AnyOp w b l = BadOp w b := by
  funext e w'
  unfold AnyOp
  rw [h]
theorem two_or {q : List Int} : q.length < 2 ∨ ∃ y z r, q = y :: z :: r := by
  match q with
  | [] => exact .inl (by simp)
  | [_] => exact .inl (by simp)
  | y :: z :: r => exact .inr ⟨y, z, r, rfl⟩
theorem op_is {w : World} {b : Nat} {A : Option Addr} {n c : Nat} {l : List Int} (h : Sc w b A n c l 0) (hl : l ≠ []) :
    Calls Try.prog 15 #[.pointer (some ⟨b, 0, none⟩)] w (AnyOp w b l) := by
  match l, h, hl with
  | x :: q, h, _ =>
    cases ho : isOrd x
    · rw [AnyOp.good (show one (x :: q) = some _ by unfold one; simp only [ho]; rfl)]
      exact op_text h ho
    · have hn : ¬ isOrd x = false := by rw [ho]; simp
      rcases ord_or ho with rfl | rfl | rfl | rfl | rfl | rfl | rfl | rfl | rfl | rfl
      · rw [AnyOp.good (show one (5 :: q) = some _ by unfold one; simp only [hn]; rfl)]
        exact op_one5 h
      · by_cases hd : q = [] ∨ isOrd (q.getD 0 0) = true
        · rw [AnyOp.bad (show one (8 :: q) = none by unfold one; simp only [hn, hd]; rfl)]
          exact op_ge_no h hd
        · rw [AnyOp.good (show one (8 :: q) = some (⟨8, 0, q.getD 0 0, false, 0, [], []⟩, q.drop 1) by unfold one; simp only [hn, hd]; rfl)]
          match q, h, hd with
          | [], h, hd => simp at hd
          | y :: r, h, hd => exact op_ge h (by simpa using hd)
      · by_cases hd : q.length < 2 ∨ decE 12 (q.getD 0 0) ≠ 0
        · rw [AnyOp.bad (show one (17 :: q) = none by unfold one; simp only [hn, hd]; rfl)]
          exact op_addr17_no h hd
        · rw [AnyOp.good (show one (17 :: q) = some (⟨17, decN 12 (q.getD 0 0) (q.getD 1 0), 0, false, 0, [], []⟩, q.drop 2) by unfold one; simp only [hn, hd]; rfl)]
          rcases two_or (q := q) with h2 | ⟨y, z, r, rfl⟩
          · exact absurd (.inl h2) hd
          · exact op_addr17 h (by simp at hd; exact hd)
      · by_cases hd : q.length < 2 ∨ decE 12 (q.getD 0 0) ≠ 0
        · rw [AnyOp.bad (show one (18 :: q) = none by unfold one; simp only [hn, hd]; rfl)]
          exact op_addr18_no h hd
        · rw [AnyOp.good (show one (18 :: q) = some (⟨18, decN 12 (q.getD 0 0) (q.getD 1 0), 0, false, 0, [], []⟩, q.drop 2) by unfold one; simp only [hn, hd]; rfl)]
          rcases two_or (q := q) with h2 | ⟨y, z, r, rfl⟩
          · exact absurd (.inl h2) hd
          · exact op_addr18 h (by simp at hd; exact hd)
      · rw [AnyOp.good (show one (19 :: q) = some _ by unfold one; simp only [hn]; rfl)]
        exact op_one19 h
      · by_cases hd : q = []
        · rw [AnyOp.bad (show one (29 :: q) = none by unfold one; simp only [hn, hd]; rfl)]
          exact op_sf_no h hd
        · rw [AnyOp.good (show one (29 :: q) = some (⟨29, 0, 0, false, q.getD 0 0, [], []⟩, q.drop 1) by unfold one; simp only [hn, hd]; rfl)]
          match q, h, hd with
          | [], h, hd => simp at hd
          | y :: r, h, hd => exact op_sf h
      · by_cases hd : q.length < 2 ∨ rightB (q.getD 0 0) (q.getD 1 0) = false
        · rw [AnyOp.bad (show one (40 :: q) = none by unfold one; simp only [hn, hd]; rfl)]
          exact op_sa_no h hd
        · rw [AnyOp.good (show one (40 :: q) = some (⟨40, 0, 0, false, 0, [(q.getD 0 0, q.getD 1 0)], []⟩, q.drop 2) by unfold one; simp only [hn, hd]; rfl)]
          rcases two_or (q := q) with h2 | ⟨y, z, r, rfl⟩
          · exact absurd (.inl h2) hd
          · exact op_sa h (by simp at hd; exact hd)
      · by_cases hd : q.length < 1 + 2 * numP q ∨ goodP q = false
        · rw [AnyOp.bad (show one (41 :: q) = none by unfold one; simp only [hn, hd]; rfl)]
          exact op_prs41_no h hd
        · rw [AnyOp.good (show one (41 :: q) = some (⟨41, 0, 0, false, 0, pairs q (numP q), []⟩, q.drop (1 + 2 * numP q)) by unfold one; simp only [hn, hd]; rfl)]
          simp only [not_or, Nat.not_lt, Bool.not_eq_false] at hd
          exact op_prs41 h hd.1 hd.2 rfl
      · by_cases hd : q.length < 1 + 2 * numP q ∨ goodP q = false
        · rw [AnyOp.bad (show one (44 :: q) = none by unfold one; simp only [hn, hd]; rfl)]
          exact op_prs44_no h hd
        · rw [AnyOp.good (show one (44 :: q) = some (⟨44, 0, 0, false, 0, pairs q (numP q), []⟩, q.drop (1 + 2 * numP q)) by unfold one; simp only [hn, hd]; rfl)]
          simp only [not_or, Nat.not_lt, Bool.not_eq_false] at hd
          exact op_prs44 h hd.1 hd.2 rfl
      · by_cases hd : q.length < 2 ∨ decE 12 (q.getD 0 0) ≠ 0 ∨ badTail (q.drop 2) = true
        · rw [AnyOp.bad (show one (60 :: q) = none by unfold one; simp only [hn, hd]; rfl)]
          exact op_ra_no h hd
        · by_cases h8 : q.getD 2 0 = 8
          · rw [AnyOp.good (show one (60 :: q) = some (⟨60, decN 12 (q.getD 0 0) (q.getD 1 0), q.getD 3 0, true, 0, [], []⟩, q.drop 4) by unfold one; simp only [hn, hd, h8]; rfl)]
            simp only [not_or] at hd
            obtain ⟨d1, d2, d3⟩ := hd
            match q, h, d1, d2, d3, h8 with
            | y :: z :: t :: c :: r, h, d1, d2, d3, h8 =>
              have ht : t = 8 := h8
              subst ht
              exact op_ra8 h (by simpa using d2) (by simpa [badTail] using d3)
            | [], _, d1, _, _, _ => simp at d1
            | [_], _, d1, _, _, _ => simp at d1
            | [_, _], _, _, _, d3, _ => simp [badTail] at d3
            | [_, _, t], _, _, _, d3, h8 =>
              have ht : t = 8 := h8
              subst ht
              simp [badTail] at d3
          · rw [AnyOp.good (show one (60 :: q) = some (⟨60, decN 12 (q.getD 0 0) (q.getD 1 0), q.getD 2 0, false, 0, [], []⟩, q.drop 3) by unfold one; simp only [hn, hd, h8]; rfl)]
            simp only [not_or] at hd
            obtain ⟨d1, d2, d3⟩ := hd
            match q, h, d1, d2, d3, h8 with
            | y :: z :: t :: r, h, d1, d2, d3, h8 =>
              have ht : ¬ t = 8 := h8
              exact op_ra h (by simpa using d2) (by simpa [badTail, ht] using d3)
            | [], _, d1, _, _, _ => simp at d1
            | [_], _, d1, _, _, _ => simp at d1
            | [_, _], _, _, _, d3, _ => simp [badTail] at d3
end Go.Proofs.Ytahlilogobfhcaa
