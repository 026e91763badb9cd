/-
  The reference's Same of any two acts. No condition.
-/
import Derived.Test.YtfambgigdhkiaaaDoorRSame
namespace Go.Proofs.YtfambgigdhkiaaaDoor
open Go.RowKit
set_option linter.unusedVariables false
set_option linter.unusedSimpArgs false

set_option maxRecDepth 100000 in
set_option maxHeartbeats 6400000 in
theorem rsame_any {k cm m rq k' cm' m' rq' : Int} {al al' : Bool} {lc lr lc' lr' : List Int} {A1 A2 A3 A4 : Option Addr} {n1 n2 n3 n4 c1 c2 c3 c4 B1 B2 B3 B4 : Nat} {w : World} (h1 : Sl B1 w A1 n1 c1 lc) (h2 : Sl B2 w A2 n2 c2 lr) (h3 : Sl B3 w A3 n3 c3 lc') (h4 : Sl B4 w A4 n4 c4 lr') :
    Calls Tryd.prog 22 #[.agg #[.int .i64 k, .int .i64 cm, .int .i64 m, .bool al, .int .u8 rq, .slice A1 n1 c1, .slice A2 n2 c2], .agg #[.int .i64 k', .int .i64 cm', .int .i64 m', .bool al', .int .u8 rq', .slice A3 n3 c3, .slice A4 n4 c4]] w fun e w' => e = .returned (.bool ((k == k') && (cm == cm') && (m == m') && (al == al') && (rq == rq') && decide (lc = lc') && decide (lr = lr'))) ∧ Up w w' := by
  have H1 := Lib.hid (fun w' (hu : Up w w') => same_sl (h1.up hu) (h3.up hu))
  have H2 := Lib.hid (fun w' (hu : Up w w') => same_sl (h2.up hu) (h4.up hu))
  obtain ⟨t1, ht1⟩ : ∃ t, decide (lc = lc') = t := ⟨_, rfl⟩
  obtain ⟨t2, ht2⟩ : ∃ t, decide (lr = lr') = t := ⟨_, rfl⟩
  rw [ht1] at H1 ⊢
  rw [ht2] at H2 ⊢
  clear h1 h2 h3 h4 ht1 ht2
  cases e1 : (k == k')
  · go_enter Tryd.func22, Tryd.ntmps22
    go_wp2
    go_ret
    exact ⟨ret_bool (by simp), by (repeat (first | with_reducible exact Up.refl _ | with_reducible refine Up.alloc ?_ _ | with_reducible refine Up.drew ?_ | with_reducible refine Up.drewN ?_ _ | with_reducible refine Up.setCell ?_ (by (try simp) <;> omega) _ | with_reducible assumption | with_reducible refine Up.trans ?_ (by assumption)))⟩
  cases e2 : (cm == cm')
  · go_enter Tryd.func22, Tryd.ntmps22
    go_wp2
    go_ret
    exact ⟨ret_bool (by simp), by (repeat (first | with_reducible exact Up.refl _ | with_reducible refine Up.alloc ?_ _ | with_reducible refine Up.drew ?_ | with_reducible refine Up.drewN ?_ _ | with_reducible refine Up.setCell ?_ (by (try simp) <;> omega) _ | with_reducible assumption | with_reducible refine Up.trans ?_ (by assumption)))⟩
  cases e3 : (m == m')
  · go_enter Tryd.func22, Tryd.ntmps22
    go_wp2
    go_ret
    exact ⟨ret_bool (by simp), by (repeat (first | with_reducible exact Up.refl _ | with_reducible refine Up.alloc ?_ _ | with_reducible refine Up.drew ?_ | with_reducible refine Up.drewN ?_ _ | with_reducible refine Up.setCell ?_ (by (try simp) <;> omega) _ | with_reducible assumption | with_reducible refine Up.trans ?_ (by assumption)))⟩
  cases e4 : (al == al')
  · go_enter Tryd.func22, Tryd.ntmps22
    go_wp2
    go_ret
    exact ⟨ret_bool (by simp), by (repeat (first | with_reducible exact Up.refl _ | with_reducible refine Up.alloc ?_ _ | with_reducible refine Up.drew ?_ | with_reducible refine Up.drewN ?_ _ | with_reducible refine Up.setCell ?_ (by (try simp) <;> omega) _ | with_reducible assumption | with_reducible refine Up.trans ?_ (by assumption)))⟩
  cases e5 : (rq == rq')
  · go_enter Tryd.func22, Tryd.ntmps22
    go_wp2
    go_ret
    exact ⟨ret_bool (by simp), by (repeat (first | with_reducible exact Up.refl _ | with_reducible refine Up.alloc ?_ _ | with_reducible refine Up.drew ?_ | with_reducible refine Up.drewN ?_ _ | with_reducible refine Up.setCell ?_ (by (try simp) <;> omega) _ | with_reducible assumption | with_reducible refine Up.trans ?_ (by assumption)))⟩
  cases t1
  · go_enter Tryd.func22, Tryd.ntmps22
    go_wp2_with fail
    refine (H1.out _ (by (repeat (first | with_reducible exact Up.refl _ | with_reducible refine Up.alloc ?_ _ | with_reducible refine Up.drew ?_ | with_reducible refine Up.drewN ?_ _ | with_reducible refine Up.setCell ?_ (by (try simp) <;> omega) _ | with_reducible assumption | with_reducible refine Up.trans ?_ (by assumption))))).mono ?_
    rintro e w' ⟨rfl, rfl⟩
    go_wp2
    go_ret
    exact ⟨ret_bool (by simp), by (repeat (first | with_reducible exact Up.refl _ | with_reducible refine Up.alloc ?_ _ | with_reducible refine Up.drew ?_ | with_reducible refine Up.drewN ?_ _ | with_reducible refine Up.setCell ?_ (by (try simp) <;> omega) _ | with_reducible assumption | with_reducible refine Up.trans ?_ (by assumption)))⟩
  · go_enter Tryd.func22, Tryd.ntmps22
    go_wp2_with fail
    refine (H1.out _ (by (repeat (first | with_reducible exact Up.refl _ | with_reducible refine Up.alloc ?_ _ | with_reducible refine Up.drew ?_ | with_reducible refine Up.drewN ?_ _ | with_reducible refine Up.setCell ?_ (by (try simp) <;> omega) _ | with_reducible assumption | with_reducible refine Up.trans ?_ (by assumption))))).mono ?_
    rintro e w' ⟨rfl, rfl⟩
    go_wp2_with fail
    refine (H2.out _ (by (repeat (first | with_reducible exact Up.refl _ | with_reducible refine Up.alloc ?_ _ | with_reducible refine Up.drew ?_ | with_reducible refine Up.drewN ?_ _ | with_reducible refine Up.setCell ?_ (by (try simp) <;> omega) _ | with_reducible assumption | with_reducible refine Up.trans ?_ (by assumption))))).mono ?_
    rintro e w' ⟨rfl, rfl⟩
    go_wp2
    go_ret
    exact ⟨ret_bool (by simp), by (repeat (first | with_reducible exact Up.refl _ | with_reducible refine Up.alloc ?_ _ | with_reducible refine Up.drew ?_ | with_reducible refine Up.drewN ?_ _ | with_reducible refine Up.setCell ?_ (by (try simp) <;> omega) _ | with_reducible assumption | with_reducible refine Up.trans ?_ (by assumption)))⟩
end Go.Proofs.YtfambgigdhkiaaaDoor
