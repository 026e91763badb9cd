/-
  A record of acts, in plain words. No condition.
-/
import Derived.Test.YtfambgigdhkiaaaDoorRMk2
namespace Go.Proofs.YtfambgigdhkiaaaDoor
open Go.RowKit
set_option linter.unusedVariables false
set_option linter.unusedSimpArgs false

def fOk (a : PAct) : Bool := (fieldOf a).2.2 == 0
def fbOf (a : PAct) : List Int := (bytesOf (fieldOf a).1 (fieldOf a).2.1).1
/-- an act that is cut short -/
structure SmallA (a : PAct) : Prop where
  codes : a.codes.length ≤ 20
  rec_ : a.rec_.length ≤ 300
  req : 0 ≤ a.req ∧ a.req ≤ 255
theorem data_len {a : PAct} (h : SmallA a) : (dataOf a).2.1.length ≤ 301 ∧ 0 ≤ (dataOf a).1 ∧ (dataOf a).1 ≤ 255 := by
  have h1 := h.codes
  have h2 := h.rec_
  unfold dataOf
  repeat' split
  all_goals (simp; try omega)
theorem field_len {a : PAct} (h : SmallA a) : (fieldOf a).2.1.length ≤ 301 ∧ 0 ≤ (fieldOf a).1 ∧ (fieldOf a).1 ≤ 255 := by
  have := data_len h
  unfold fieldOf
  repeat' split
  all_goals (simp only [List.length_nil]; omega)
theorem fb_ok {a : PAct} (h : SmallA a) : (bytesOf (fieldOf a).1 (fieldOf a).2.1).2 = 0 ∧ (fbOf a).length ≤ 304 := by
  have := field_len h
  unfold fbOf bytesOf
  rw [if_neg (by omega)]
  exact ⟨rfl, by simp; omega⟩
/-- the record of acts; or the error -/
def recOf (l : List PAct) : List Int × Int := match l.find? (fun a => !fOk a) with
  | some a => ([], (fieldOf a).2.2)
  | none => (243 :: l.flatMap fbOf, 0)
theorem rec_fail {l : List PAct} {j : Nat} {a : PAct} (hj : l[j]? = some a) (hn : fOk a = false) (hb : ∀ y ∈ l.take j, fOk y = true) : recOf l = ([], (fieldOf a).2.2) := by
  have hjl := (List.getElem?_eq_some_iff.1 hj).1
  have e : l = l.take j ++ a :: l.drop (j + 1) := by
    have h1 : l.drop j = a :: l.drop (j + 1) := by
      rw [List.drop_eq_getElem_cons hjl]
      rw [List.getElem?_eq_getElem hjl] at hj
      injection hj with hj
      rw [hj]
    rw [← h1, List.take_append_drop]
  unfold recOf
  have hf : l.find? (fun a => !fOk a) = some a := by
    rw [e, List.find?_append]
    have h1 : (l.take j).find? (fun a => !fOk a) = none := by
      rw [List.find?_eq_none]
      intro y hy
      simp [hb y hy]
    rw [h1, Option.none_or, List.find?_cons]
    simp [hn]
  rw [hf]
theorem rec_ok {l : List PAct} (hb : ∀ y ∈ l, fOk y = true) : recOf l = (243 :: l.flatMap fbOf, 0) := by
  unfold recOf
  have hf : l.find? (fun a => !fOk a) = none := by
    rw [List.find?_eq_none]
    intro y hy
    simp [hb y hy]
  rw [hf]
theorem fbs_len {l : List PAct} (hs : ∀ y ∈ l, SmallA y) : (l.flatMap fbOf).length ≤ 304 * l.length := by
  induction l with
  | nil => simp
  | cons a l ih =>
    have h1 := (fb_ok (hs a (List.mem_cons_self ..))).2
    have h2 := ih (fun y hy => hs y (List.mem_cons_of_mem _ hy))
    rw [List.flatMap_cons, List.length_append, List.length_cons]
    omega
theorem rec_zero {l : List PAct} (h : (recOf l).2 = 0) : (∀ y ∈ l, fOk y = true) ∧ recOf l = (243 :: l.flatMap fbOf, 0) := by
  have key : ∀ y ∈ l, fOk y = true := by
    unfold recOf at h
    cases hf : l.find? (fun a => !fOk a) with
    | none =>
      intro y hy
      have := List.find?_eq_none.1 hf y hy
      simpa using this
    | some a =>
      rw [hf] at h
      have := List.find?_some hf
      simp [fOk] at this
      exact absurd h this
  exact ⟨key, rec_ok key⟩
end Go.Proofs.YtfambgigdhkiaaaDoor
