/-
  The fields of a record's bytes and one more, in plain words. No condition.
-/
import Derived.Test.YtfambgigdhkiaaaDoorRRec
namespace Go.Proofs.YtfambgigdhkiaaaDoor
open Go.RowKit
set_option linter.unusedVariables false
set_option linter.unusedSimpArgs false

theorem items_one {a b id : Int} {D rest : List Int} (hn : 256 * a + b = 3 + (D.length : Int)) (ha : 0 ≤ a) (hb : 0 ≤ b) : items ([a, b, id] ++ D ++ rest) = (id, D, 0) :: items rest := by
  have hlen : ([a, b, id] ++ D ++ rest).length = 3 + D.length + rest.length := by simp; omega
  have hN : fldN ([a, b, id] ++ D ++ rest) = 3 + D.length := by
    unfold fldN
    rw [hlen, if_pos ⟨by omega, by simp; omega⟩]
    simp
    omega
  rw [items_cons (by rw [hlen]; omega) (by rw [hN]; omega) (by rw [hN, hlen]; omega), hN]
  have e1 : ([a, b, id] ++ D ++ rest : List Int).drop (3 + D.length) = rest := by
    rw [List.drop_left' (by simp; omega)]
  have e2 : (([a, b, id] ++ D ++ rest : List Int).take (3 + D.length)).drop 3 = D := by
    rw [List.take_left' (by simp; omega)]
    rfl
  rw [e1, e2]
  rfl
theorem items_zero {id : Int} {D : List Int} : items ([0, 0, id] ++ D) = [(id, D, 0)] := by
  have hlen : ([0, 0, id] ++ D).length = 3 + D.length := by simp; omega
  have hN : fldN ([0, 0, id] ++ D) = 3 + D.length := by
    unfold fldN
    rw [hlen, if_neg (by simp)]
  rw [items_cons (by rw [hlen]; omega) (by rw [hN]; omega) (by rw [hN, hlen]; omega), hN]
  have e1 : ([0, 0, id] ++ D : List Int).drop (3 + D.length) = [] := List.drop_eq_nil_of_le (by rw [hlen]; omega)
  have e2 : (([0, 0, id] ++ D : List Int).take (3 + D.length)).drop 3 = D := by
    rw [List.take_of_length_le (by rw [hlen]; omega)]
    rfl
  rw [e1, e2, items_nil rfl]
  rfl
theorem fb_form {a : PAct} (h : SmallA a) : ∃ x y, fbOf a = [x, y, (fieldOf a).1] ++ (fieldOf a).2.1 ∧ 256 * x + y = 3 + ((fieldOf a).2.1.length : Int) ∧ 0 ≤ x ∧ 0 ≤ y := by
  have := field_len h
  unfold fbOf bytesOf
  rw [if_neg (by omega)]
  exact ⟨_, _, rfl, by omega, by omega, by omega⟩
theorem items_fbs : ∀ (l : List PAct) (rest : List Int), (∀ y ∈ l, SmallA y) → items (l.flatMap fbOf ++ rest) = (l.map fun a => ((fieldOf a).1, (fieldOf a).2.1, 0)) ++ items rest
  | [], rest, _ => rfl
  | a :: l, rest, h => by
    obtain ⟨x, y, e, h1, h2, h3⟩ := fb_form (h a (List.mem_cons_self ..))
    rw [List.flatMap_cons, e, List.append_assoc, items_one h1 h2 h3, items_fbs l rest (fun y hy => h y (List.mem_cons_of_mem _ hy))]
    rfl
/-- the fields of a record's acts, and one more -/
def restF (l : List PAct) (id : Int) (D : List Int) : List (Int × List Int) := (l.map fun a => ((fieldOf a).1, (fieldOf a).2.1)) ++ [(id, D)]
theorem flds_fbs {l : List PAct} (h : ∀ y ∈ l, SmallA y) {rest : List Int} {id : Int} {D : List Int} (hr : items rest = [(id, D, 0)]) : fldsOf (l.flatMap fbOf ++ rest) = (restF l id D, 0) := by
  unfold fldsOf
  rw [items_fbs l rest h, hr, upTo_all]
  · unfold restF
    rw [List.map_append, List.map_map]
    rfl
  · intro x hx
    rcases List.mem_append.1 hx with hx | hx
    · obtain ⟨a, _, rfl⟩ := List.mem_map.1 hx
      rfl
    · rw [List.mem_singleton.1 hx]
theorem restF_len (l : List PAct) (id : Int) (D : List Int) : (restF l id D).length = l.length + 1 := by simp [restF]
theorem fldsM_fbs {l : List PAct} (h : ∀ y ∈ l, SmallA y) (hl : l.length ≤ 6) {rest : List Int} {id : Int} {D : List Int} (hr : items rest = [(id, D, 0)]) : fldsM (l.flatMap fbOf ++ rest) 100 = (restF l id D, 0) := by
  unfold fldsM
  rw [flds_fbs h hr, if_neg (by rw [restF_len]; omega)]
theorem fldsM_zero {l : List PAct} (h : ∀ y ∈ l, SmallA y) (hl : l.length ≤ 6) (id : Int) (D : List Int) : fldsM (l.flatMap fbOf ++ ([0, 0, id] ++ D)) 100 = (restF l id D, 0) := fldsM_fbs h hl items_zero
theorem fldsM_one {l : List PAct} (h : ∀ y ∈ l, SmallA y) (hl : l.length ≤ 6) {a b id : Int} {D : List Int} (hn : 256 * a + b = 3 + (D.length : Int)) (ha : 0 ≤ a) (hb : 0 ≤ b) : fldsM (l.flatMap fbOf ++ ([a, b, id] ++ D)) 100 = (restF l id D, 0) :=
  fldsM_fbs h hl (by have := items_one (id := id) (rest := []) hn ha hb; rw [List.append_nil] at this; rw [this, items_nil rfl])
end Go.Proofs.YtfambgigdhkiaaaDoor
