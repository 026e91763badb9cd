/-
  The reference's Make is makeOf. No condition but the slices' own reach.
-/
import Derived.Test.YtfambgigdhkiaaaDoorRMk
namespace Go.Proofs.YtfambgigdhkiaaaDoor
open Go.RowKit
set_option linter.unusedVariables false
set_option linter.unusedSimpArgs false

set_option maxRecDepth 100000 in
set_option maxHeartbeats 3200000 in
theorem make_out {a : PAct} {A1 A2 : Option Addr} {c1 c2 : Nat} {w : World} (hk : a.kind < 1 ∨ 9 < a.kind) :
    Calls Tryd.prog 27 #[actV a A1 c1 A2 c2] w (FieldRet w (0, [], 1)) := by
  unfold actV
  by_cases h1 : a.kind < 1
  · go_enter Tryd.func27, Tryd.ntmps27
    go_wp2
    exact bodyPost_ret (v := .tuple #[.agg #[.int .u8 0, .slice none 0 0], .int .i64 1]) (by simp [results, Tryd.results27, go_sem]) rfl ⟨none, 0, rfl, Sl.none_, by (repeat (first | with_reducible exact Up.refl _ | with_reducible refine Up.alloc ?_ _ | with_reducible refine Up.drew ?_ | with_reducible refine Up.drewN ?_ _ | with_reducible refine Up.setCell ?_ (by (try simp) <;> omega) _ | with_reducible assumption | with_reducible refine Up.trans ?_ (by assumption)))⟩
  · have h9 : 9 < a.kind := by omega
    go_enter Tryd.func27, Tryd.ntmps27
    go_wp2
    exact bodyPost_ret (v := .tuple #[.agg #[.int .u8 0, .slice none 0 0], .int .i64 1]) (by simp [results, Tryd.results27, go_sem]) rfl ⟨none, 0, rfl, Sl.none_, by (repeat (first | with_reducible exact Up.refl _ | with_reducible refine Up.alloc ?_ _ | with_reducible refine Up.drew ?_ | with_reducible refine Up.drewN ?_ _ | with_reducible refine Up.setCell ?_ (by (try simp) <;> omega) _ | with_reducible assumption | with_reducible refine Up.trans ?_ (by assumption)))⟩
theorem make_is {a : PAct} {A1 A2 : Option Addr} {B1 B2 c1 c2 : Nat} {w : World} (h1 : Sl B1 w A1 a.codes.length c1 a.codes) (h2 : Sl B2 w A2 a.rec_.length c2 a.rec_) (hq : 0 ≤ a.req ∧ a.req ≤ 255) (n1 : a.codes.length ≤ 60000) (n2 : a.rec_.length ≤ 60000) :
    Calls Tryd.prog 27 #[actV a A1 c1 A2 c2] w (FieldRet w (fieldOf a)) := by
  rw [← make_field]
  by_cases hk : a.kind < 1 ∨ 9 < a.kind
  · have e : makeOf a = (0, [], 1) := by unfold makeOf; rw [if_pos hk]
    rw [e]
    exact make_out hk
  · have e : makeOf a = mkTail (dataOf a).1 (dataOf a).2.1 a := by unfold makeOf mkTail; rw [if_neg hk]
    rw [e]
    exact make_in h1 h2 hq n1 n2 (by omega) (by omega)
end Go.Proofs.YtfambgigdhkiaaaDoor
