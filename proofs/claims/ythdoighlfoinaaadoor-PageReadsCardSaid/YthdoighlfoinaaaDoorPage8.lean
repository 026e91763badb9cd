/-
  What the law's pick computes. No condition.
-/
import Derived.Test.YthdoighlfoinaaaDoorPage7
import Derived.Test.YthdoighlfoinaaaDoorRSign
namespace Go.Proofs.YthdoighlfoinaaaDoor
open Go.RowKit Go.Maps
set_option linter.unusedVariables false
set_option linter.unusedSimpArgs false

def pageK (j : Nat) : Int := [37, 273, 297, 500, 1047, 1140].getD j 0
theorem pageK_is {j : Nat} (h : j < 6) : isPage (pageK j) = true := by
  match j, h with
  | 0, _ | 1, _ | 2, _ | 3, _ | 4, _ | 5, _ => rfl
theorem pageK_at {j : Nat} (h : j < 6) : (#[Value.int .i64 37, .int .i64 273, .int .i64 297, .int .i64 500, .int .i64 1047, .int .i64 1140] : Array Value)[j]? = some (.int .i64 (pageK j)) := by
  match j, h with
  | 0, _ | 1, _ | 2, _ | 3, _ | 4, _ | 5, _ => rfl
set_option maxRecDepth 100000 in
set_option maxHeartbeats 800000 in
theorem pick_is (n : Int) (hn : 0 ≤ n ∧ n ≤ 255) (w : World) :
    Calls Tryd.prog 12 #[.int .u8 n] w fun e w' => ∃ b k, e = .returned (.tuple #[.pointer (some ⟨b, 0, none⟩), .int .i64 k]) ∧ isPage k = true ∧ w.heap.size ≤ b ∧ PAt w' b k ∧ Up w w' := by
  obtain ⟨m, rfl⟩ : ∃ m : Nat, n = (m : Int) := ⟨n.toNat, by omega⟩
  have h6 : m % 6 = 0 ∨ m % 6 = 1 ∨ m % 6 = 2 ∨ m % 6 = 3 ∨ m % 6 = 4 ∨ m % 6 = 5 := by omega
  rcases h6 with h | h | h | h | h | h
  all_goals
    have h' : (m : Int) % 6 = ((m % 6 : Nat) : Int) := by omega
    rw [h] at h'
    go_enter Tryd.func12, Tryd.ntmps12
    go_wp2_with (first | (go_at_call 26; go_in) | (go_at_call 18; refine (new_is _ rfl _).mono ?_; rintro e w2 ⟨b, rfl, hb, hp, hu⟩))
    go_ret2
    exact ⟨b, _, rfl, rfl, by simp at hb; omega, hp, ((Up.refl w).alloc _).trans hu⟩
end Go.Proofs.YthdoighlfoinaaaDoor
