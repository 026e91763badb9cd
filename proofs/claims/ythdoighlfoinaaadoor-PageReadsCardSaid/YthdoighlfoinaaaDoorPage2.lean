/-
  What page's row and others, and the reference's others, compute. No condition.
-/
import Derived.Test.YthdoighlfoinaaaDoorPage1
import Derived.Test.YthdoighlfoinaaaDoorPageR0
namespace Go.Proofs.YthdoighlfoinaaaDoor
open Go.RowKit
set_option linter.unusedVariables false
set_option linter.unusedSimpArgs false

def encO (p : Int × Int) : List Value := [.int .u8 p.1, .int .u16 p.2]
/-- what others hands over -/
def Ovr (l : List (Int × Int)) (b : Bool) (w : World) (e : Ending) (w' : World) : Prop := ∃ A c, e = .returned (.tuple #[.slice A l.length c, .bool b]) ∧ Reads w' w'.heap.size 2 A l.length (l.flatMap encO) ∧ l.length ≤ c ∧ c ≤ 65536 ∧ (∀ p : Addr, A = some p → w.heap.size ≤ p.block) ∧ Up w w'
theorem ovr_lit (w : World) (l : List (Int × Int)) (cs : Array Value) (t : TypeId) (h : cs.toList = l.flatMap encO) (n : Nat) (hn : n = l.length) (hl : l.length ≤ 65536) :
    Ovr l true w (.returned (.tuple #[.slice (some ⟨w.heap.size, 0, none⟩) n n, .bool true])) (w.alloc (.cells cs t)) := by
  subst hn
  refine ⟨_, _, rfl, ?_, Nat.le_refl _, hl, fun p hp => by injection hp with hp; subst hp; exact Nat.le_refl _, by (repeat (first | with_reducible exact Up.refl _ | with_reducible refine Up.alloc ?_ _ | with_reducible refine Up.drew ?_ | with_reducible refine Up.drewN ?_ _ | with_reducible refine Up.setCell ?_ (by (try simp) <;> omega) _ | with_reducible assumption | with_reducible refine Up.trans ?_ (by assumption)))⟩
  have hsz : cs.size = l.length * 2 := by
    rw [← Array.length_toList, h, flatMap_len (k := 2) (fun _ => rfl)]
  have := reads_at w w.heap.size 2 l.length cs t hsz rfl
  rw [h] at this
  simpa using this
set_option maxRecDepth 100000 in
set_option maxHeartbeats 3200000 in
theorem others_is (k : Int) (h : isPage k = true) (w : World) : Calls Tryd.prog 29 #[.int .i64 k] w (Ovr (ovrL k) true w) := by
  rcases page_cases h with rfl | rfl | rfl | rfl | rfl | rfl
  · go_enter Tryd.func29, Tryd.ntmps29
    go_wp2
    go_ret2
    exact ⟨none, 0, rfl, Reads.none_, by decide, by omega, (fun p hp => absurd hp (by simp)), Up.refl _⟩
  all_goals
    go_enter Tryd.func29, Tryd.ntmps29
    go_wp2
    go_ret2
    exact ovr_lit w (ovrL _) _ _ (by kernel_rfl) _ rfl (by decide)
set_option maxHeartbeats 800000 in
theorem others_not (k : Int) (h : isPage k = false) (w : World) : Calls Tryd.prog 29 #[.int .i64 k] w fun e w' => e = .returned (.tuple #[.slice none 0 0, .bool false]) ∧ w = w' := by
  simp only [isPage, Bool.or_eq_false_iff] at h
  obtain ⟨⟨⟨⟨⟨h1, h2⟩, h3⟩, h4⟩, h5⟩, h6⟩ := h
  go_enter Tryd.func29, Tryd.ntmps29
  go_wp2
  go_ret2
  exact ⟨rfl, rfl⟩
def strB (l : List UInt8) : ByteArray := ⟨l.toArray⟩
set_option maxRecDepth 100000 in
set_option maxHeartbeats 3200000 in
theorem ref_others_is (k : Int) (h : isPage k = true) (w : World) : Calls Tryd.prog 32 #[.int .i64 k] w fun e w' => e = .returned (.tuple #[.string (strB (othB k)), .bool true]) ∧ w = w' := by
  rcases page_cases h with rfl | rfl | rfl | rfl | rfl | rfl
  all_goals
    go_enter Tryd.func32, Tryd.ntmps32
    go_wp2
    go_ret2
    exact ⟨by kernel_rfl, rfl⟩
set_option maxHeartbeats 800000 in
theorem ref_others_not (k : Int) (h : isPage k = false) (w : World) : Calls Tryd.prog 32 #[.int .i64 k] w fun e w' => e = .returned (.tuple #[.string ByteArray.empty, .bool false]) ∧ w = w' := by
  simp only [isPage, Bool.or_eq_false_iff] at h
  obtain ⟨⟨⟨⟨⟨h1, h2⟩, h3⟩, h4⟩, h5⟩, h6⟩ := h
  go_enter Tryd.func32, Tryd.ntmps32
  go_wp2
  go_ret2
  exact ⟨rfl, rfl⟩
end Go.Proofs.YthdoighlfoinaaaDoor
