/-
  Classes of codes: the reference's Shown; a page or none is picked; the walks of ClassAlone and ClassUses. No condition.
-/
import Derived.Test.YthdoighlfoinaaaDoorCls2
namespace Go.Proofs.YthdoighlfoinaaaDoor
open Go.RowKit Go.Maps
set_option linter.unusedVariables false
set_option linter.unusedSimpArgs false

theorem data_parts (c : Nat) (hc : c < 256) : dataN c = (!(decide ((c : Int) < 64)) && !((c : Int) == 255)) := by
  unfold dataN
  by_cases h1 : (c : Int) < 64
  · have : ¬ (64 ≤ (c : Int)) := by omega
    simp [h1, this]
  · by_cases h2 : (c : Int) = 255
    · simp [h2]
    · have h3 : 64 ≤ (c : Int) := by omega
      have h4 : (c : Int) < 255 := by omega
      simp [h1, h2, h3, h4]
def sigN (s : Int) : Int := if (decide (48 ≤ s) && decide (s ≤ 57)) = true then 5 else if ((decide (97 ≤ s) && decide (s ≤ 122)) || (decide (65 ≤ s) && decide (s ≤ 90)) || (decide (192 ≤ s) && decide (s ≤ 255) && s != 215 && s != 247)) = true then 6 else 7
set_option maxRecDepth 100000 in
set_option maxHeartbeats 3200000 in
theorem signed_is (s : Int) (w : World) : Calls Tryd.prog 21 #[.int .i32 s] w fun e w' => e = .returned (.int .i64 (sigN s)) ∧ w = w' := by
  unfold sigN
  cases e1 : decide (48 ≤ s) <;> cases e2 : decide (s ≤ 57) <;> first | (exfalso; simp only [decide_eq_true_eq, decide_eq_false_iff_not] at *; omega) | skip
  all_goals cases e3 : decide (97 ≤ s) <;> cases e4 : decide (s ≤ 122) <;> first | (exfalso; simp only [decide_eq_true_eq, decide_eq_false_iff_not] at *; omega) | skip
  all_goals cases e5 : decide (65 ≤ s) <;> cases e6 : decide (s ≤ 90) <;> first | (exfalso; simp only [decide_eq_true_eq, decide_eq_false_iff_not] at *; omega) | skip
  all_goals cases e7 : decide (192 ≤ s) <;> cases e8 : decide (s ≤ 255) <;> first | (exfalso; simp only [decide_eq_true_eq, decide_eq_false_iff_not] at *; omega) | skip
  all_goals cases e9 : (s != 215) <;> cases e10 : (s != 247) <;> first | (exfalso; simp only [decide_eq_true_eq, decide_eq_false_iff_not, bne_iff_ne, bne_eq_false_iff_eq] at *; omega) | skip
  all_goals
    have h1 := e1
    have h2 := e2
    have h3 := e3
    have h4 := e4
    have h5 := e5
    have h6 := e6
    have h7 := e7
    have h8 := e8
    simp only [decide_eq_true_eq, decide_eq_false_iff_not] at h1 h2 h3 h4 h5 h6 h7 h8
    try simp only [Bool.false_eq_true, Bool.true_eq_false, if_true, if_false, reduceIte, reduceCtorEq, Bool.or_true, Bool.true_or, Bool.or_false, Bool.false_or, Bool.and_true, Bool.and_false, Bool.true_and, Bool.false_and]
    go_enter Tryd.func21, Tryd.ntmps21
    go_wp2_with fail
    go_ret
    exact ⟨rfl, rfl⟩
end Go.Proofs.YthdoighlfoinaaaDoor
