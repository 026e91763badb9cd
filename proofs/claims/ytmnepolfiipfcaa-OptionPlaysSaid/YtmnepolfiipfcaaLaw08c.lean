/-
  The walk of law 08's OptionNil. No condition.
-/
import Derived.Test.YtmnepolfiipfcaaAgreed
import Derived.Shelf.Abstract
namespace Go.Proofs.Ytmnepolfiipfcaa
open Go.RowKit Go.Shelf
set_option linter.unusedVariables false
set_option linter.unusedSimpArgs false

theorem enters_agreed : ∀ args w, (callFunc 37 args).run Try.prog w = .ok (.enter 37 args) w := enters_of Try.func37 (by kernel_rfl) rfl
set_option maxHeartbeats 800000 in
theorem agreed_is (mp : Option Addr) (i : Int) (w : World) :
    Calls Try.prog 21 #[.pointer mp, .int .i64 i] w fun e w' => ∃ bm bw, e = .returned (.func (.func 37) #[] #[.pointer (some ⟨bm, 0, none⟩), .pointer (some ⟨bw, 0, none⟩)]) ∧ bm < w'.heap.size ∧ bw < w'.heap.size ∧ w'.cell? ⟨bm, 0, none⟩ = some (.pointer mp) ∧ w'.cell? ⟨bw, 0, none⟩ = some (.int .i64 i) ∧ Up w w' := by
  go_enter Try.func21, Try.ntmps21
  go_wp2
  go_ret
  exact ⟨w.heap.size, w.heap.size + 1, rfl, by simp; omega, by simp, by simp, by simp, by (repeat (first | with_reducible exact Up.refl _ | with_reducible refine Up.alloc ?_ _ | with_reducible refine Up.drew ?_ | with_reducible refine Up.drewN ?_ _ | with_reducible refine Up.setCell ?_ (by (try simp) <;> omega) _ | with_reducible assumption | with_reducible refine Up.trans ?_ (by assumption)))⟩
set_option maxHeartbeats 800000 in
theorem quiet_nil (w : World) : Calls Try.prog 18 #[.pointer none] w fun e w' => e = .returned (.bool true) ∧ w = w' := by
  go_enter Try.func18, Try.ntmps18
  go_wp2
  go_ret
  exact ⟨rfl, rfl⟩
theorem those_none (n : Nat) : those (fun _ => false) n = [] := by unfold those; simp
set_option maxRecDepth 100000 in
set_option maxHeartbeats 1600000 in
theorem law_nil (v o i : Int) (w : World) (_ : 0 ≤ v) (_ : v ≤ 255) (_ : 0 ≤ o) (_ : o ≤ 255) (_ : -9223372036854775808 ≤ i) (_ : i ≤ 9223372036854775807) :
    Calls Try.prog 6 #[.int .u8 v, .int .u8 o, .int .i64 i] w fun e w' => e = .returned (.bool true) ∧ Up w w' := by
  go_enter Try.func6, Try.ntmps6
  go_wp2_with fail
  refine (awake08 _).mono ?_
  rintro e wa ⟨rfl, ua⟩
  go_wp2_with fail
  refine (hear_nil _ _ _).mono ?_
  rintro e w' ⟨rfl, rfl⟩
  go_wp2_with fail
  refine (ask_nil _ _ _ _).mono ?_
  rintro e w' ⟨rfl, rfl⟩
  go_wp2_with fail
  refine (state_nil _ _ _).mono ?_
  rintro e w' ⟨rfl, rfl⟩
  go_wp2_with fail
  refine (on_of (state_nil _ _ _) (b := false) rfl).mono ?_
  rintro e w' ⟨rfl, rfl⟩
  go_wp2_with fail
  refine (quiet_nil _).mono ?_
  rintro e w' ⟨rfl, rfl⟩
  go_wp2_with fail
  refine (agreed_is _ _ _).mono ?_
  rintro e wb ⟨bm, bw, rfl, z1, z2, m1, m2, ub⟩
  have hit := agreed_it (.pointer none) (.int .i64 i) (fun _ => false) bm bw (fun k => k = bm ∨ k = bw) wb (by rintro k (rfl | rfl) <;> assumption) m1 m2 (.inl rfl) (.inr rfl) (fun W _ o _ => on_of (state_nil _ _ _) (b := false) rfl)
  rw [those_none] at hit
  have HI := Lib.hid hit
  clear hit m1 m2
  go_wp2_with fail
  refine (collect_u8 [] enters_agreed (fun _ h => h.elim) (by rintro k (rfl | rfl) <;> assumption) (by simp) HI.out).mono ?_
  rintro e wc ⟨A, c, rfl, -, -, -, hk⟩
  have HK := Lib.hid hk
  clear hk
  go_wp2_with fail
  go_ret
  exact ⟨rfl, (ua.trans ub).keep HK.out (fun _ h => h.elim)⟩
end Go.Proofs.Ytmnepolfiipfcaa
