/-
  The reference's Same of two like acts. No condition.
-/
import Derived.Test.YtfambgigdhkiaaaDoorSAct
namespace Go.Proofs.YtfambgigdhkiaaaDoor
open Go.RowKit
set_option linter.unusedVariables false
set_option linter.unusedSimpArgs false

set_option maxRecDepth 100000 in
set_option maxHeartbeats 3200000 in
theorem rsame_eq {k cm m rq : Int} {al : Bool} {lc lr : List Int} {A1 A2 A3 A4 : Option Addr} {n1 n2 n3 n4 c1 c2 c3 c4 B1 B2 B3 B4 : Nat} {w : World} (h1 : Sl B1 w A1 n1 c1 lc) (h2 : Sl B2 w A2 n2 c2 lr) (h3 : Sl B3 w A3 n3 c3 lc) (h4 : Sl B4 w A4 n4 c4 lr) :
    Calls Tryd.prog 22 #[.agg #[.int .i64 k, .int .i64 cm, .int .i64 m, .bool al, .int .u8 rq, .slice A1 n1 c1, .slice A2 n2 c2], .agg #[.int .i64 k, .int .i64 cm, .int .i64 m, .bool al, .int .u8 rq, .slice A3 n3 c3, .slice A4 n4 c4]] w fun e w' => e = .returned (.bool true) ∧ Up w w' := by
  have H1 := Lib.hid (fun w' (hu : Up w w') => same_sl (h1.up hu) (h3.up hu))
  have H2 := Lib.hid (fun w' (hu : Up w w') => same_sl (h2.up hu) (h4.up hu))
  rw [decide_eq_true rfl] at H1 H2
  clear h1 h2 h3 h4
  go_enter Tryd.func22, Tryd.ntmps22
  go_wp2_with fail
  refine (H1.out _ (by (repeat (first | with_reducible exact Up.refl _ | with_reducible refine Up.alloc ?_ _ | with_reducible refine Up.drew ?_ | with_reducible refine Up.drewN ?_ _ | with_reducible refine Up.setCell ?_ (by (try simp) <;> omega) _ | with_reducible assumption | with_reducible refine Up.trans ?_ (by assumption))))).mono ?_
  rintro e w' ⟨rfl, rfl⟩
  go_wp2_with fail
  refine (H2.out _ (by (repeat (first | with_reducible exact Up.refl _ | with_reducible refine Up.alloc ?_ _ | with_reducible refine Up.drew ?_ | with_reducible refine Up.drewN ?_ _ | with_reducible refine Up.setCell ?_ (by (try simp) <;> omega) _ | with_reducible assumption | with_reducible refine Up.trans ?_ (by assumption))))).mono ?_
  rintro e w' ⟨rfl, rfl⟩
  go_wp2
  go_ret
  exact ⟨rfl, by (repeat (first | with_reducible exact Up.refl _ | with_reducible refine Up.alloc ?_ _ | with_reducible refine Up.drew ?_ | with_reducible refine Up.drewN ?_ _ | with_reducible refine Up.setCell ?_ (by (try simp) <;> omega) _ | with_reducible assumption | with_reducible refine Up.trans ?_ (by assumption)))⟩
end Go.Proofs.YtfambgigdhkiaaaDoor
