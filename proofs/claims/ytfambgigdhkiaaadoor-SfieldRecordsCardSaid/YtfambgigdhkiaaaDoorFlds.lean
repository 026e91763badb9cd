/-
  Structured fields in plain words: the fields that bytes begin with, and the error. No condition.
-/
import Derived.Test.YtfambgigdhkiaaaDoorSAct
namespace Go.Proofs.YtfambgigdhkiaaaDoor
open Go.RowKit
set_option linter.unusedVariables false
set_option linter.unusedSimpArgs false

/-- how long the first field says it is -/
def fldN (l : List Int) : Nat := if 3 ≤ l.length ∧ (l.getD 0 0 ≠ 0 ∨ l.getD 1 0 ≠ 0) then (256 * l.getD 0 0 + l.getD 1 0).toNat else l.length
def itemsG : Nat → List Int → List (Int × List Int × Int)
  | 0, _ => []
  | f + 1, l => if l.length = 0 then [] else if fldN l < 3 ∨ l.length < fldN l then [(0, [], 2)] else (l.getD 2 0, (l.take (fldN l)).drop 3, 0) :: itemsG f (l.drop (fldN l))
/-- what is handed over, one by one -/
def items (l : List Int) : List (Int × List Int × Int) := itemsG l.length l
theorem itemsG_more : ∀ (f g : Nat) (l : List Int), l.length ≤ f → l.length ≤ g → itemsG f l = itemsG g l
  | 0, 0, _, _, _ => rfl
  | 0, g + 1, l, h, _ => by
    unfold itemsG
    rw [if_pos (by omega)]
  | f + 1, 0, l, _, h => by
    unfold itemsG
    rw [if_pos (by omega)]
  | f + 1, g + 1, l, h1, h2 => by
    unfold itemsG
    by_cases h0 : l.length = 0
    · rw [if_pos h0, if_pos h0]
    · rw [if_neg h0, if_neg h0]
      by_cases hb : fldN l < 3 ∨ l.length < fldN l
      · rw [if_pos hb, if_pos hb]
      · rw [if_neg hb, if_neg hb, itemsG_more f g (l.drop (fldN l)) (by rw [List.length_drop]; omega) (by rw [List.length_drop]; omega)]
theorem items_nil {l : List Int} (h : l.length = 0) : items l = [] := by
  unfold items
  rw [h]
  rfl
theorem items_bad {l : List Int} (h : l.length ≠ 0) (hb : fldN l < 3 ∨ l.length < fldN l) : items l = [(0, [], 2)] := by
  unfold items
  obtain ⟨f, hf⟩ : ∃ f, l.length = f + 1 := ⟨l.length - 1, by omega⟩
  rw [itemsG_more l.length (f + 1) l (Nat.le_refl _) (by omega)]
  unfold itemsG
  rw [if_neg h, if_pos hb]
theorem items_cons {l : List Int} (h : l.length ≠ 0) (h3 : 3 ≤ fldN l) (hn : fldN l ≤ l.length) : items l = (l.getD 2 0, (l.take (fldN l)).drop 3, 0) :: items (l.drop (fldN l)) := by
  unfold items
  obtain ⟨f, hf⟩ : ∃ f, l.length = f + 1 := ⟨l.length - 1, by omega⟩
  rw [itemsG_more l.length (f + 1) l (Nat.le_refl _) (by omega), itemsG_more (l.drop (fldN l)).length f (l.drop (fldN l)) (Nat.le_refl _) (by rw [List.length_drop]; omega)]
  conv => lhs; unfold itemsG
  rw [if_neg h, if_neg (by omega)]
/-- the fields up to where one isn't there, and that error -/
def upTo : List (Int × List Int × Int) → List (Int × List Int) × Int
  | [] => ([], 0)
  | (i, d, e) :: r => if e = 0 then ((i, d) :: (upTo r).1, (upTo r).2) else ([], e)
def fldsOf (l : List Int) : List (Int × List Int) × Int := upTo (items l)
def bare (x : Int × List Int × Int) : Int × List Int := (x.1, x.2.1)
theorem upTo_app : ∀ (pre r : List (Int × List Int × Int)), (∀ x ∈ pre, x.2.2 = 0) → upTo (pre ++ r) = (pre.map bare ++ (upTo r).1, (upTo r).2)
  | [], r, _ => rfl
  | (i, d, e) :: pre, r, h => by
    have h0 : e = 0 := h (i, d, e) (by simp)
    rw [List.cons_append, upTo, if_pos h0, upTo_app pre r (fun x hx => h x (List.mem_cons_of_mem _ hx))]
    rfl
theorem upTo_all {xs : List (Int × List Int × Int)} (h : ∀ x ∈ xs, x.2.2 = 0) : upTo xs = (xs.map bare, 0) := by
  have := upTo_app xs [] h
  simpa [upTo] using this
theorem upTo_stop {pre xs : List (Int × List Int × Int)} {x : Int × List Int × Int} (h : ∀ x ∈ pre, x.2.2 = 0) (hx : x.2.2 ≠ 0) (hp : pre ++ [x] <+: xs) : upTo xs = (pre.map bare, x.2.2) := by
  obtain ⟨r, rfl⟩ := hp
  rw [List.append_assoc, upTo_app pre _ h]
  obtain ⟨i, d, e⟩ := x
  simp only [List.cons_append, List.nil_append, upTo]
  rw [if_neg hx]
  simp
theorem upTo_pre {pre xs : List (Int × List Int × Int)} (h : ∀ x ∈ pre, x.2.2 = 0) (hp : pre <+: xs) : pre.map bare <+: (upTo xs).1 := by
  obtain ⟨r, rfl⟩ := hp
  rw [upTo_app pre _ h]
  exact List.prefix_append _ _
/-- what all ask for, up to the first error, and that -/
def actsG : List (Int × List Int) → Int → List PAct × Int
  | [], g => ([], g)
  | (i, d) :: r, g => if (actOf i d).2 = 0 then ((actOf i d).1 :: (actsG r g).1, (actsG r g).2) else ([], (actOf i d).2)
def actsOf (l : List Int) : List PAct × Int := actsG (fldsOf l).1 (fldsOf l).2
def asks (x : Int × List Int) : PAct := (actOf x.1 x.2).1
def okAct (x : Int × List Int) : Prop := (actOf x.1 x.2).2 = 0
theorem actsG_app : ∀ (pre r : List (Int × List Int)) (g : Int), (∀ x ∈ pre, okAct x) → actsG (pre ++ r) g = (pre.map asks ++ (actsG r g).1, (actsG r g).2)
  | [], r, g, _ => rfl
  | (i, d) :: pre, r, g, h => by
    have h0 : okAct (i, d) := h (i, d) (by simp)
    rw [List.cons_append, actsG, if_pos (show (actOf i d).2 = 0 from h0), actsG_app pre r g (fun x hx => h x (List.mem_cons_of_mem _ hx))]
    rfl
theorem actsG_all {xs : List (Int × List Int)} {g : Int} (h : ∀ x ∈ xs, okAct x) : actsG xs g = (xs.map asks, g) := by
  have := actsG_app xs [] g h
  simpa [actsG] using this
theorem actsG_stop {pre xs : List (Int × List Int)} {x : Int × List Int} {g : Int} (h : ∀ x ∈ pre, okAct x) (hx : ¬ okAct x) (hp : pre ++ [x] <+: xs) : actsG xs g = (pre.map asks, (actOf x.1 x.2).2) := by
  obtain ⟨r, rfl⟩ := hp
  rw [List.append_assoc, actsG_app pre _ g h]
  obtain ⟨i, d⟩ := x
  simp only [List.cons_append, List.nil_append, actsG]
  unfold okAct at hx
  rw [if_neg hx]
  simp
theorem items_len : ∀ (f : Nat) (l : List Int), l.length ≤ f → (items l).length ≤ l.length := by
  intro f
  induction f with
  | zero => intro l h; rw [items_nil (by omega)]; simp
  | succ f ih =>
    intro l h
    by_cases h0 : l.length = 0
    · rw [items_nil h0]; simp
    · by_cases hb : fldN l < 3 ∨ l.length < fldN l
      · rw [items_bad h0 hb]; simp; omega
      · rw [items_cons h0 (by omega) (by omega), List.length_cons]
        have := ih (l.drop (fldN l)) (by rw [List.length_drop]; omega)
        rw [List.length_drop] at this
        omega
theorem upTo_len : ∀ (xs : List (Int × List Int × Int)), (upTo xs).1.length ≤ xs.length
  | [] => by simp [upTo]
  | (i, d, e) :: r => by
    have := upTo_len r
    rw [upTo]
    split
    · simp; omega
    · simp
theorem flds_len (l : List Int) : (fldsOf l).1.length ≤ l.length := Nat.le_trans (upTo_len _) (items_len _ l (Nat.le_refl _))
/-- every byte of a field is one of the text's -/
theorem items_mem {p : Int → Prop} (h0 : p 0) : ∀ (f : Nat) (l : List Int), l.length ≤ f → (∀ x ∈ l, p x) → ∀ y ∈ items l, p y.1 ∧ (∀ x ∈ y.2.1, p x) ∧ y.2.1.length ≤ l.length := by
  intro f
  induction f with
  | zero => intro l h _; rw [items_nil (by omega)]; simp
  | succ f ih =>
    intro l h hp
    by_cases hz : l.length = 0
    · rw [items_nil hz]; simp
    · by_cases hb : fldN l < 3 ∨ l.length < fldN l
      · rw [items_bad hz hb]
        intro y hy
        rw [List.mem_singleton] at hy
        subst hy
        exact ⟨h0, by simp, by simp⟩
      · rw [items_cons hz (by omega) (by omega)]
        intro y hy
        rcases List.mem_cons.1 hy with rfl | hy
        · refine ⟨?_, fun x hx => hp x (List.mem_of_mem_take (List.mem_of_mem_drop hx)), by simp; omega⟩
          show p (l.getD 2 0)
          rw [List.getD_eq_getElem?_getD]
          cases hq : l[2]? with
          | none => exact h0
          | some x => exact hp x (List.mem_of_getElem? hq)
        · obtain ⟨a, b, c⟩ := ih (l.drop (fldN l)) (by rw [List.length_drop]; omega) (fun x hx => hp x (List.mem_of_mem_drop hx)) y hy
          exact ⟨a, b, Nat.le_trans c (by rw [List.length_drop]; omega)⟩
end Go.Proofs.YtfambgigdhkiaaaDoor
