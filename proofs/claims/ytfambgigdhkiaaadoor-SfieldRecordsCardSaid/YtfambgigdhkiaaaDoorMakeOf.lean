/-
  The field of an act, in plain words: the program's and the reference's way to it are one. No condition.
-/
import Derived.Test.YtfambgigdhkiaaaDoorRPlain
namespace Go.Proofs.YtfambgigdhkiaaaDoor
open Go.RowKit
set_option linter.unusedVariables false
set_option linter.unusedSimpArgs false

theorem plain_kind (a : PAct) : (plainOf a).kind = a.kind := by
  unfold plainOf
  repeat' split
  all_goals (first | (simp only; omega) | rfl)
theorem told_plain (a : PAct) : toldB a (plainOf a) = true := by
  unfold toldB plainOf
  by_cases k2 : a.kind = 2
  · rw [if_pos k2, if_pos k2]; simp
  rw [if_neg k2, if_neg k2]
  by_cases k3 : a.kind = 3
  · rw [if_pos k3, if_pos k3]; simp
  rw [if_neg k3, if_neg k3]
  by_cases k5 : a.kind = 5
  · rw [if_pos k5, if_neg (by omega), if_pos k5]; simp
  rw [if_neg k5]
  by_cases k9 : a.kind = 9
  · rw [if_pos k9, if_neg (by omega), if_neg k5, if_pos k9]; simp
  rw [if_neg k9]
theorem told_same {a b : PAct} (hb : plainOf b = b) (hk : b.kind = a.kind) (ht : toldB a b = true) (h4 : a.kind = 4 → b.alt = a.alt) : b = plainOf a := by
  rw [← hb]
  unfold toldB at ht
  unfold plainOf
  rw [hk]
  by_cases k2 : a.kind = 2
  · rw [if_pos k2] at ht ⊢
    rw [if_pos k2]
    simp at ht
    rw [ht.1, ht.2]
  rw [if_neg k2] at ht ⊢
  rw [if_neg k2]
  by_cases k3 : a.kind = 3
  · rw [if_pos k3] at ht ⊢
    rw [if_pos k3]
    simp at ht
    rw [ht]
  rw [if_neg k3] at ht ⊢
  rw [if_neg k3]
  by_cases k4 : a.kind = 4
  · rw [if_pos k4, if_pos k4, h4 k4]
  rw [if_neg k4, if_neg k4]
  by_cases k5 : a.kind = 5
  · rw [if_pos k5] at ht ⊢
    rw [if_pos k5]
    simp at ht
    rw [ht]
  rw [if_neg k5] at ht ⊢
  rw [if_neg k5]
  by_cases k9 : a.kind = 9
  · rw [if_pos k9] at ht ⊢
    rw [if_pos k9]
    simp at ht
    rw [ht]
  rw [if_neg k9, if_neg k9]
theorem data_ok (a : PAct) : (dataOf a).2.2 = true ↔ 1 ≤ a.kind ∧ a.kind ≤ 9 := by
  unfold dataOf
  repeat' split
  all_goals (simp; try omega)
theorem data_alt {a : PAct} (h : a.kind = 4) : (actOf (dataOf a).1 (dataOf a).2.1).1.alt = a.alt := by
  obtain ⟨k, cm, m, al, rq, cs, rc⟩ := a
  simp only at h
  subst h
  cases al <;> rfl
/-- the reference's way -/
def makeOf (a : PAct) : Int × List Int × Int :=
  if a.kind < 1 ∨ 9 < a.kind then (0, [], 1)
  else if (actOf (dataOf a).1 (dataOf a).2.1).2 = 0 ∧ sameB (actOf (dataOf a).1 (dataOf a).2.1).1 (plainOf a) = true then ((dataOf a).1, (dataOf a).2.1, 0) else (0, [], 4)
theorem make_field (a : PAct) : makeOf a = fieldOf a := by
  unfold makeOf fieldOf
  by_cases hk : a.kind < 1 ∨ 9 < a.kind
  · rw [if_pos hk, if_neg (fun h => by have := (data_ok a).1 h; omega)]
  · rw [if_neg hk, if_pos ((data_ok a).2 (by omega))]
    have e : ((actOf (dataOf a).1 (dataOf a).2.1).2 = 0 ∧ sameB (actOf (dataOf a).1 (dataOf a).2.1).1 (plainOf a) = true) ↔ ((actOf (dataOf a).1 (dataOf a).2.1).2 = 0 ∧ (actOf (dataOf a).1 (dataOf a).2.1).1.kind = a.kind ∧ toldB a (actOf (dataOf a).1 (dataOf a).2.1).1 = true) := by
      rw [sameB_iff]
      constructor
      · rintro ⟨h1, h2⟩
        exact ⟨h1, by rw [h2, plain_kind], by rw [h2]; exact told_plain a⟩
      · rintro ⟨h1, h2, h3⟩
        exact ⟨h1, told_same (plain_act _ _) h2 h3 (fun h => data_alt h)⟩
    by_cases hc : (actOf (dataOf a).1 (dataOf a).2.1).2 = 0 ∧ sameB (actOf (dataOf a).1 (dataOf a).2.1).1 (plainOf a) = true
    · rw [if_pos hc, if_pos (e.1 hc)]
    · rw [if_neg hc, if_neg (fun h => hc (e.2 h))]
/-- the field of an act asks for the act, plain -/
theorem field_asks {a : PAct} (h : (fieldOf a).2.2 = 0) : actOf (fieldOf a).1 (fieldOf a).2.1 = (plainOf a, 0) := by
  rw [← make_field] at h ⊢
  unfold makeOf at h ⊢
  by_cases hk : a.kind < 1 ∨ 9 < a.kind
  · rw [if_pos hk] at h
    simp at h
  · rw [if_neg hk] at h ⊢
    by_cases hc : (actOf (dataOf a).1 (dataOf a).2.1).2 = 0 ∧ sameB (actOf (dataOf a).1 (dataOf a).2.1).1 (plainOf a) = true
    · rw [if_pos hc]
      exact Prod.ext (sameB_iff.1 hc.2) hc.1
    · rw [if_neg hc] at h
      simp at h
end Go.Proofs.YtfambgigdhkiaaaDoor
