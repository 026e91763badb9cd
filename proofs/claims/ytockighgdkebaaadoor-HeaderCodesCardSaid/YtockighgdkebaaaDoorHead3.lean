/-
  What header's Name, Answer and the reference's Name, Answer, Flip compute, the table of names as the program lays it. No condition.
-/
import Derived.Test.YtockighgdkebaaaDoorHead2
namespace Go.Proofs.YtockighgdkebaaaDoor
open Go.RowKit
set_option linter.unusedVariables false
set_option linter.unusedSimpArgs false

def nameList : List ByteArray := [{ data := #[51, 50, 55, 48, 45, 68, 65, 84, 65] }, { data := #[83, 67, 83, 45, 68, 65, 84, 65] }, { data := #[82, 69, 83, 80, 79, 78, 83, 69] }, { data := #[66, 73, 78, 68, 45, 73, 77, 65, 71, 69] }, { data := #[85, 78, 66, 73, 78, 68] }, { data := #[78, 86, 84, 45, 68, 65, 84, 65] }, { data := #[82, 69, 81, 85, 69, 83, 84] }, { data := #[83, 83, 67, 80, 45, 76, 85, 45, 68, 65, 84, 65] }, { data := #[80, 82, 73, 78, 84, 45, 69, 79, 74] }]
def nameOf (t : Int) : ByteArray := nameList.getD t.toNat { data := #[] }
/-- the table of names lies in its block -/
def TabH (w : World) : Prop := 0 < w.heap.size ∧ ∀ i : Nat, i < 9 → w.cell? ⟨0, i, none⟩ = some (.string (nameOf i))
theorem TabH.up {a b : World} (h : TabH a) (hu : Up a b) : TabH b := ⟨Nat.lt_of_lt_of_le h.1 hu.size, fun i hi => (hu.cells.1 0 i h.1).trans (h.2 i hi)⟩

set_option maxHeartbeats 400000 in
theorem name_any (t : Int) (w : World) (h0 : 0 ≤ t) (h1 : t ≤ 255) (hT : TabH w) :
    Calls Tryd.prog 22 #[.int .u8 t] w fun e w' => e = .returned (.string (nameOf t)) ∧ Up w w' := by
  by_cases h9 : t < 9
  · obtain ⟨k, rfl⟩ := Int.eq_ofNat_of_zero_le h0
    have hc := hT.2 k (by omega)
    have hk : (k : Int) < 9 := h9
    go_enter Tryd.func22, Tryd.ntmps22
    go_wp2
    go_ret
    exact ⟨rfl, Up.refl _⟩
  · have hn : nameOf t = { data := #[] } := by
      unfold nameOf
      rw [List.getD, List.getElem?_eq_none (by simp [nameList]; omega)]
      rfl
    rw [hn]
    go_enter Tryd.func22, Tryd.ntmps22
    go_wp2
    go_ret
    exact ⟨rfl, Up.refl _⟩
set_option maxHeartbeats 800000 in
theorem ref_name_any (t : Int) (w : World) (h0 : 0 ≤ t) (h1 : t ≤ 255) :
    Calls Tryd.prog 23 #[.int .u8 t] w fun e w' => e = .returned (.string (nameOf t)) ∧ Up w w' := by
  by_cases h9 : t < 9
  · obtain ⟨k, rfl⟩ := Int.eq_ofNat_of_zero_le h0
    have : k = 0 ∨ k = 1 ∨ k = 2 ∨ k = 3 ∨ k = 4 ∨ k = 5 ∨ k = 6 ∨ k = 7 ∨ k = 8 := by omega
    rcases this with rfl | rfl | rfl | rfl | rfl | rfl | rfl | rfl | rfl
    all_goals
      go_enter Tryd.func23, Tryd.ntmps23
      go_wp2
      go_ret
      exact ⟨rfl, by (repeat (first | with_reducible exact Up.refl _ | with_reducible refine Up.alloc ?_ _ | with_reducible refine Up.drew ?_ | with_reducible refine Up.drewN ?_ _ | with_reducible refine Up.setCell ?_ (by (try simp) <;> omega) _ | with_reducible assumption | with_reducible refine Up.trans ?_ (by assumption)))⟩
  · have hn : nameOf t = { data := #[] } := by
      unfold nameOf
      rw [List.getD, List.getElem?_eq_none (by simp [nameList]; omega)]
      rfl
    rw [hn]
    go_enter Tryd.func23, Tryd.ntmps23
    go_wp2
    go_ret
    exact ⟨rfl, by (repeat (first | with_reducible exact Up.refl _ | with_reducible refine Up.alloc ?_ _ | with_reducible refine Up.drew ?_ | with_reducible refine Up.drewN ?_ _ | with_reducible refine Up.setCell ?_ (by (try simp) <;> omega) _ | with_reducible assumption | with_reducible refine Up.trans ?_ (by assumption)))⟩

/-- nothing is answered -/
def quietH (t r e : Int) : Prop := t = 2 ∨ t = 6 ∨ r = 0 ∨ 2 < r ∨ (e = 0 ∧ r = 1)
set_option maxHeartbeats 800000 in
theorem hanswer_none (t q r s e : Int) (w : World) (h2 : 0 ≤ r) (h : quietH t r e) :
    Calls Tryd.prog 7 #[.agg #[.int .u8 t, .int .u8 q, .int .u8 r, .int .u16 s], .int .i64 e] w fun x w' => x = .returned (.tuple #[.slice none 0 0, .bool false]) ∧ Up w w' := by
  by_cases b1 : t = 2 ∨ t = 6
  · rcases b1 with rfl | rfl
    all_goals
      go_enter Tryd.func7, Tryd.ntmps7
      go_wp2
      go_ret2
      exact ⟨rfl, by (repeat (first | with_reducible exact Up.refl _ | with_reducible refine Up.alloc ?_ _ | with_reducible refine Up.drew ?_ | with_reducible refine Up.drewN ?_ _ | with_reducible refine Up.setCell ?_ (by (try simp) <;> omega) _ | with_reducible assumption | with_reducible refine Up.trans ?_ (by assumption)))⟩
  · have t2 : (t == 2) = false := by simp; omega
    have t6 : (t == 6) = false := by simp; omega
    have hr : r = 0 ∨ 2 < r ∨ (r = 1 ∧ e = 0) := by unfold quietH at h; omega
    rcases hr with rfl | hr | ⟨rfl, rfl⟩
    · go_enter Tryd.func7, Tryd.ntmps7
      go_wp2
      go_ret2
      exact ⟨rfl, by (repeat (first | with_reducible exact Up.refl _ | with_reducible refine Up.alloc ?_ _ | with_reducible refine Up.drew ?_ | with_reducible refine Up.drewN ?_ _ | with_reducible refine Up.setCell ?_ (by (try simp) <;> omega) _ | with_reducible assumption | with_reducible refine Up.trans ?_ (by assumption)))⟩
    · have r0 : (r == 0) = false := by simp; omega
      go_enter Tryd.func7, Tryd.ntmps7
      go_wp2
      go_ret2
      exact ⟨rfl, by (repeat (first | with_reducible exact Up.refl _ | with_reducible refine Up.alloc ?_ _ | with_reducible refine Up.drew ?_ | with_reducible refine Up.drewN ?_ _ | with_reducible refine Up.setCell ?_ (by (try simp) <;> omega) _ | with_reducible assumption | with_reducible refine Up.trans ?_ (by assumption)))⟩
    · go_enter Tryd.func7, Tryd.ntmps7
      go_wp2
      go_ret2
      exact ⟨rfl, by (repeat (first | with_reducible exact Up.refl _ | with_reducible refine Up.alloc ?_ _ | with_reducible refine Up.drew ?_ | with_reducible refine Up.drewN ?_ _ | with_reducible refine Up.setCell ?_ (by (try simp) <;> omega) _ | with_reducible assumption | with_reducible refine Up.trans ?_ (by assumption)))⟩
set_option maxHeartbeats 800000 in
theorem hanswer_pos (t q s : Int) (w : World) (h4 : 0 ≤ s) (h5 : s ≤ 65535) (t2 : (t == 2) = false) (t6 : (t == 6) = false) :
    Calls Tryd.prog 7 #[.agg #[.int .u8 t, .int .u8 q, .int .u8 2, .int .u16 s], .int .i64 0] w fun x w' => ∃ A k, x = .returned (.tuple #[.slice A 6 k, .bool true]) ∧ Made w w' A k (resp 0 s 0) ∧ Up w w' := by
  go_enter Tryd.func7, Tryd.ntmps7
  go_wp2_with fail
  refine (positive_any _ _ h4 h5).mono ?_
  rintro e w1 ⟨A, k, rfl, hm, hu⟩
  go_wp2
  go_ret2
  exact ⟨A, k, rfl, ⟨own_base hm.1 (by simp), hm.2⟩, by (repeat (first | with_reducible exact Up.refl _ | with_reducible refine Up.alloc ?_ _ | with_reducible refine Up.drew ?_ | with_reducible refine Up.drewN ?_ _ | with_reducible refine Up.setCell ?_ (by (try simp) <;> omega) _ | with_reducible assumption | with_reducible refine Up.trans ?_ (by assumption)))⟩
set_option maxHeartbeats 800000 in
theorem hanswer_neg (t q r s e : Int) (w : World) (h4 : 0 ≤ s) (h5 : s ≤ 65535) (t2 : (t == 2) = false) (t6 : (t == 6) = false) (hr : r = 1 ∨ r = 2) (he : (e == 0) = false) :
    Calls Tryd.prog 7 #[.agg #[.int .u8 t, .int .u8 q, .int .u8 r, .int .u16 s], .int .i64 e] w fun x w' => ∃ A k, x = .returned (.tuple #[.slice A 6 k, .bool true]) ∧ Made w w' A k (resp 1 s (codeOf e)) ∧ Up w w' := by
  rcases hr with rfl | rfl
  all_goals
    go_enter Tryd.func7, Tryd.ntmps7
    go_wp2
    go_region_held3 (fun w' => w'.cell? ⟨w.heap.size, 3, none⟩ = some (.int .u16 s)) (first | go_keep | trivial) (first | (go_at_call 10; refine (code_any _ _).mono ?_; rintro x w' ⟨rfl, rfl⟩) | (go_at_call 25; refine (answer_any _ _ _ _ h4 h5).mono ?_; rintro x w1 ⟨A, k, rfl, hm, hu⟩; obtain ⟨bc, bf⟩ := hu.at_ w.heap.size (by (try simp) <;> omega)))
    go_wp2
    go_ret2
    exact ⟨A, k, rfl, ⟨own_base hm.1 (by simp), hm.2⟩, by (repeat (first | with_reducible exact Up.refl _ | with_reducible refine Up.alloc ?_ _ | with_reducible refine Up.drew ?_ | with_reducible refine Up.drewN ?_ _ | with_reducible refine Up.setCell ?_ (by (try simp) <;> omega) _ | with_reducible assumption | with_reducible refine Up.trans ?_ (by assumption)))⟩
end Go.Proofs.YtockighgdkebaaaDoor
