/-
  What the extended attribute's functions compute (program and reference): Check, Right, Apply. No condition.
-/
import Derived.Test.YtockighgdkebaaaAttr1
namespace Go.Proofs.Ytockighgdkebaaa
open Go.RowKit
set_option linter.unusedVariables false
set_option linter.unusedSimpArgs false

/-- is it an extended attribute? -/
def rightB (t v : Int) : Bool :=
  if t = 0 then v == 0 else if t = 192 then true else if t = 65 then v == 0 || v == 240 || v == 241 || v == 242 || v == 244 || v == 248
  else if t = 66 then v == 0 || (decide (241 ≤ v) && decide (v ≤ 247)) else if t = 67 then v == 0 || v == 241 else false

set_option maxHeartbeats 1000000 in
theorem check_any (t v : Int) (w : World) :
    Calls Try.prog 20 #[.agg #[.int .u8 t, .int .u8 v]] w fun e w' => e = .returned (.int .i64 (if rightB t v then 0 else 10)) ∧ Up w w' := by
  go_enter Try.func20, Try.ntmps20
  go_wp2
  all_goals
    go_ret
    refine ⟨ret_int ?_, (Up.refl _).alloc _⟩
    simp_all [rightB] <;> omega
set_option maxHeartbeats 1000000 in
theorem right_00 (v : Int) (w : World) :
    Calls Try.prog 21 #[.agg #[.int .u8 0, .int .u8 v]] w fun e w' => e = .returned (.bool (rightB 0 v)) ∧ Up w w' := by
  go_enter Try.func21, Try.ntmps21
  go_wp2
  refine wp_loop_rounds 2 ?_
  iterate 2 (all_goals (try rw [rounds_succ]); all_goals (try go_wp2))
  all_goals
    go_ret
    refine ⟨ret_bool ?_, by (repeat (first | with_reducible exact Up.refl _ | with_reducible refine Up.alloc ?_ _ | with_reducible refine Up.drew ?_ | with_reducible refine Up.drewN ?_ _ | with_reducible refine Up.setCell ?_ (by (try simp) <;> omega) _ | with_reducible assumption | with_reducible refine Up.trans ?_ (by assumption)))⟩
    simp_all [rightB] <;> omega
set_option maxHeartbeats 1000000 in
theorem right_41 (v : Int) (w : World) :
    Calls Try.prog 21 #[.agg #[.int .u8 65, .int .u8 v]] w fun e w' => e = .returned (.bool (rightB 65 v)) ∧ Up w w' := by
  go_enter Try.func21, Try.ntmps21
  go_wp2
  refine wp_loop_rounds 7 ?_
  iterate 7 (all_goals (try rw [rounds_succ]); all_goals (try go_wp2))
  all_goals
    go_ret
    refine ⟨ret_bool ?_, by (repeat (first | with_reducible exact Up.refl _ | with_reducible refine Up.alloc ?_ _ | with_reducible refine Up.drew ?_ | with_reducible refine Up.drewN ?_ _ | with_reducible refine Up.setCell ?_ (by (try simp) <;> omega) _ | with_reducible assumption | with_reducible refine Up.trans ?_ (by assumption)))⟩
    simp_all [rightB] <;> omega
set_option maxHeartbeats 1000000 in
theorem right_42 (v : Int) (w : World) :
    Calls Try.prog 21 #[.agg #[.int .u8 66, .int .u8 v]] w fun e w' => e = .returned (.bool (rightB 66 v)) ∧ Up w w' := by
  go_enter Try.func21, Try.ntmps21
  go_wp2
  refine wp_loop_rounds 9 ?_
  iterate 9 (all_goals (try rw [rounds_succ]); all_goals (try go_wp2))
  all_goals
    go_ret
    refine ⟨ret_bool ?_, by (repeat (first | with_reducible exact Up.refl _ | with_reducible refine Up.alloc ?_ _ | with_reducible refine Up.drew ?_ | with_reducible refine Up.drewN ?_ _ | with_reducible refine Up.setCell ?_ (by (try simp) <;> omega) _ | with_reducible assumption | with_reducible refine Up.trans ?_ (by assumption)))⟩
    simp_all [rightB] <;> omega
set_option maxHeartbeats 1000000 in
theorem right_43 (v : Int) (w : World) :
    Calls Try.prog 21 #[.agg #[.int .u8 67, .int .u8 v]] w fun e w' => e = .returned (.bool (rightB 67 v)) ∧ Up w w' := by
  go_enter Try.func21, Try.ntmps21
  go_wp2
  refine wp_loop_rounds 3 ?_
  iterate 3 (all_goals (try rw [rounds_succ]); all_goals (try go_wp2))
  all_goals
    go_ret
    refine ⟨ret_bool ?_, by (repeat (first | with_reducible exact Up.refl _ | with_reducible refine Up.alloc ?_ _ | with_reducible refine Up.drew ?_ | with_reducible refine Up.drewN ?_ _ | with_reducible refine Up.setCell ?_ (by (try simp) <;> omega) _ | with_reducible assumption | with_reducible refine Up.trans ?_ (by assumption)))⟩
    simp_all [rightB] <;> omega
set_option maxHeartbeats 1000000 in
theorem right_c0 (v : Int) (w : World) :
    Calls Try.prog 21 #[.agg #[.int .u8 192, .int .u8 v]] w fun e w' => e = .returned (.bool (rightB 192 v)) ∧ Up w w' := by
  go_enter Try.func21, Try.ntmps21
  go_wp2
  go_ret
  exact ⟨rfl, by (repeat (first | with_reducible exact Up.refl _ | with_reducible refine Up.alloc ?_ _ | with_reducible refine Up.drew ?_ | with_reducible refine Up.drewN ?_ _ | with_reducible refine Up.setCell ?_ (by (try simp) <;> omega) _ | with_reducible assumption | with_reducible refine Up.trans ?_ (by assumption)))⟩
set_option maxHeartbeats 1000000 in
theorem right_other (t v : Int) (w : World) (h0 : (t == 0) = false) (h1 : (t == 192) = false) (h2 : (t == 65) = false) (h3 : (t == 66) = false) (h4 : (t == 67) = false) :
    Calls Try.prog 21 #[.agg #[.int .u8 t, .int .u8 v]] w fun e w' => e = .returned (.bool (rightB t v)) ∧ Up w w' := by
  go_enter Try.func21, Try.ntmps21
  go_wp2
  refine wp_loop_rounds 1 ?_
  iterate 1 (all_goals (try rw [rounds_succ]); all_goals (try go_wp2))
  go_ret
  refine ⟨ret_bool ?_, by (repeat (first | with_reducible exact Up.refl _ | with_reducible refine Up.alloc ?_ _ | with_reducible refine Up.drew ?_ | with_reducible refine Up.drewN ?_ _ | with_reducible refine Up.setCell ?_ (by (try simp) <;> omega) _ | with_reducible assumption | with_reducible refine Up.trans ?_ (by assumption)))⟩
  simp_all [rightB]
theorem right_any (t v : Int) (w : World) :
    Calls Try.prog 21 #[.agg #[.int .u8 t, .int .u8 v]] w fun e w' => e = .returned (.bool (rightB t v)) ∧ Up w w' := by
  by_cases h0 : t = 0
  · subst h0; exact right_00 v w
  by_cases h1 : t = 192
  · subst h1; exact right_c0 v w
  by_cases h2 : t = 65
  · subst h2; exact right_41 v w
  by_cases h3 : t = 66
  · subst h3; exact right_42 v w
  by_cases h4 : t = 67
  · subst h4; exact right_43 v w
  exact right_other t v w (by simpa using h0) (by simpa using h1) (by simpa using h2) (by simpa using h3) (by simpa using h4)
theorem right_is {t v : Int} {b : Bool} (h : rightB t v = b) (w : World) :
    Calls Try.prog 21 #[.agg #[.int .u8 t, .int .u8 v]] w fun e w' => e = .returned (.bool b) ∧ Up w w' := by
  rw [← h]; exact right_any t v w
theorem check_good {t v : Int} (h : rightB t v = true) (w : World) :
    Calls Try.prog 20 #[.agg #[.int .u8 t, .int .u8 v]] w fun e w' => e = .returned (.int .i64 0) ∧ Up w w' := by
  have := check_any t v w
  rw [h] at this
  exact this
theorem check_bad {t v : Int} (h : rightB t v = false) (w : World) :
    Calls Try.prog 20 #[.agg #[.int .u8 t, .int .u8 v]] w fun e w' => e = .returned (.int .i64 10) ∧ Up w w' := by
  have := check_any t v w
  rw [h] at this
  exact this
end Go.Proofs.Ytockighgdkebaaa
