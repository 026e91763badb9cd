/-
  What the extended attribute's functions compute (program and reference): Check, Right, Apply. No condition.
-/
import Derived.Test.YtahlilogobfhcaaAttr1
namespace Go.Proofs.Ytahlilogobfhcaa
open Go.RowKit
set_option linter.unusedVariables false
set_option linter.unusedSimpArgs false

/-- is it an extended attribute? -/
def rightB (t v : Int) : Bool :=
  if t = 0 then v == 0 else if t = 192 then true else if t = 65 then v == 0 || v == 240 || v == 241 || v == 242 || v == 244 || v == 248
  else if t = 66 then v == 0 || (decide (241 ≤ v) && decide (v ≤ 247)) else if t = 67 then v == 0 || v == 241 else false

set_option maxHeartbeats 1000000 in
theorem check_any (t v : Int) (w : World) :
    Calls Try.prog 26 #[.agg #[.int .u8 t, .int .u8 v]] w fun e w' => e = .returned (.int .i64 (if rightB t v then 0 else 10)) ∧ Up w w' := by
  go_enter Try.func26, Try.ntmps26
  go_wp2
  all_goals
    go_ret
    refine ⟨ret_int ?_, (Up.refl _).alloc _⟩
    simp_all [rightB] <;> omega
theorem check_good {t v : Int} (h : rightB t v = true) (w : World) :
    Calls Try.prog 26 #[.agg #[.int .u8 t, .int .u8 v]] w fun e w' => e = .returned (.int .i64 0) ∧ Up w w' := by
  have := check_any t v w
  rw [h] at this
  exact this
theorem check_bad {t v : Int} (h : rightB t v = false) (w : World) :
    Calls Try.prog 26 #[.agg #[.int .u8 t, .int .u8 v]] w fun e w' => e = .returned (.int .i64 10) ∧ Up w w' := by
  have := check_any t v w
  rw [h] at this
  exact this
end Go.Proofs.Ytahlilogobfhcaa
