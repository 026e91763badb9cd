/-
  Structured fields in plain words: the fields that bytes begin with, and the error. No condition.
-/
import Derived.Test.YtfknakcjhlonoaaClone
namespace Go.Proofs.Ytfknakcjhlonoaa
open Go.RowKit
set_option linter.unusedVariables false
set_option linter.unusedSimpArgs false

/-- how long the first field says it is -/
def fldN (l : List Int) : Nat := if 3 ≤ l.length ∧ (l.getD 0 0 ≠ 0 ∨ l.getD 1 0 ≠ 0) then (256 * l.getD 0 0 + l.getD 1 0).toNat else l.length
def itemsG : Nat → List Int → List (Int × List Int × Int)
  | 0, _ => []
  | f + 1, l => if l.length = 0 then [] else if fldN l < 3 ∨ l.length < fldN l then [(0, [], 2)] else (l.getD 2 0, (l.take (fldN l)).drop 3, 0) :: itemsG f (l.drop (fldN l))
/-- what is handed over, one by one -/
def items (l : List Int) : List (Int × List Int × Int) := itemsG l.length l
theorem itemsG_more : ∀ (f g : Nat) (l : List Int), l.length ≤ f → l.length ≤ g → itemsG f l = itemsG g l
  | 0, 0, _, _, _ => rfl
  | 0, g + 1, l, h, _ => by
    unfold itemsG
    rw [if_pos (by omega)]
  | f + 1, 0, l, _, h => by
    unfold itemsG
    rw [if_pos (by omega)]
  | f + 1, g + 1, l, h1, h2 => by
    unfold itemsG
    by_cases h0 : l.length = 0
    · rw [if_pos h0, if_pos h0]
    · rw [if_neg h0, if_neg h0]
      by_cases hb : fldN l < 3 ∨ l.length < fldN l
      · rw [if_pos hb, if_pos hb]
      · rw [if_neg hb, if_neg hb, itemsG_more f g (l.drop (fldN l)) (by rw [List.length_drop]; omega) (by rw [List.length_drop]; omega)]
theorem items_nil {l : List Int} (h : l.length = 0) : items l = [] := by
  unfold items
  rw [h]
  rfl
theorem items_bad {l : List Int} (h : l.length ≠ 0) (hb : fldN l < 3 ∨ l.length < fldN l) : items l = [(0, [], 2)] := by
  unfold items
  obtain ⟨f, hf⟩ : ∃ f, l.length = f + 1 := ⟨l.length - 1, by omega⟩
  rw [itemsG_more l.length (f + 1) l (Nat.le_refl _) (by omega)]
  unfold itemsG
  rw [if_neg h, if_pos hb]
theorem items_cons {l : List Int} (h : l.length ≠ 0) (h3 : 3 ≤ fldN l) (hn : fldN l ≤ l.length) : items l = (l.getD 2 0, (l.take (fldN l)).drop 3, 0) :: items (l.drop (fldN l)) := by
  unfold items
  obtain ⟨f, hf⟩ : ∃ f, l.length = f + 1 := ⟨l.length - 1, by omega⟩
  rw [itemsG_more l.length (f + 1) l (Nat.le_refl _) (by omega), itemsG_more (l.drop (fldN l)).length f (l.drop (fldN l)) (Nat.le_refl _) (by rw [List.length_drop]; omega)]
  conv => lhs; unfold itemsG
  rw [if_neg h, if_neg (by omega)]
/-- the fields up to where one isn't there, and that error -/
def upTo : List (Int × List Int × Int) → List (Int × List Int) × Int
  | [] => ([], 0)
  | (i, d, e) :: r => if e = 0 then ((i, d) :: (upTo r).1, (upTo r).2) else ([], e)
def fldsOf (l : List Int) : List (Int × List Int) × Int := upTo (items l)
def bare (x : Int × List Int × Int) : Int × List Int := (x.1, x.2.1)
theorem upTo_app : ∀ (pre r : List (Int × List Int × Int)), (∀ x ∈ pre, x.2.2 = 0) → upTo (pre ++ r) = (pre.map bare ++ (upTo r).1, (upTo r).2)
  | [], r, _ => rfl
  | (i, d, e) :: pre, r, h => by
    have h0 : e = 0 := h (i, d, e) (by simp)
    rw [List.cons_append, upTo, if_pos h0, upTo_app pre r (fun x hx => h x (List.mem_cons_of_mem _ hx))]
    rfl
theorem upTo_all {xs : List (Int × List Int × Int)} (h : ∀ x ∈ xs, x.2.2 = 0) : upTo xs = (xs.map bare, 0) := by
  have := upTo_app xs [] h
  simpa [upTo] using this
theorem upTo_stop {pre xs : List (Int × List Int × Int)} {x : Int × List Int × Int} (h : ∀ x ∈ pre, x.2.2 = 0) (hx : x.2.2 ≠ 0) (hp : pre ++ [x] <+: xs) : upTo xs = (pre.map bare, x.2.2) := by
  obtain ⟨r, rfl⟩ := hp
  rw [List.append_assoc, upTo_app pre _ h]
  obtain ⟨i, d, e⟩ := x
  simp only [List.cons_append, List.nil_append, upTo]
  rw [if_neg hx]
  simp
theorem upTo_pre {pre xs : List (Int × List Int × Int)} (h : ∀ x ∈ pre, x.2.2 = 0) (hp : pre <+: xs) : pre.map bare <+: (upTo xs).1 := by
  obtain ⟨r, rfl⟩ := hp
  rw [upTo_app pre _ h]
  exact List.prefix_append _ _
end Go.Proofs.Ytfknakcjhlonoaa
