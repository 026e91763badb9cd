/-
  What addr's and the reference's Model compute. No condition.
-/
import Derived.Test.YtjokcfenncogkaaSp1
namespace Go.Proofs.Ytjokcfenncogkaa
open Go.RowKit
set_option linter.unusedVariables false
set_option linter.unusedSimpArgs false

set_option maxHeartbeats 800000 in
theorem model_good (n : Int) (w : World) (h : 2 ≤ n ∧ n ≤ 5) :
    Calls Try.prog 109 #[.int .i64 n] w fun e w' => e = .returned (.tuple #[.agg #[.int .i64 (dims n).1, .int .i64 (dims n).2], .int .i64 0]) ∧ Up w w' := by
  rcases (show n = 2 ∨ n = 3 ∨ n = 4 ∨ n = 5 by omega) with rfl | rfl | rfl | rfl
  all_goals
    go_enter Try.func109, Try.ntmps109
    go_wp2
    exact bodyPost_ret (v := _) (by simp [results, Try.results109, go_sem, dims]) rfl ⟨rfl, by (repeat (first | with_reducible exact Up.refl _ | with_reducible refine Up.alloc ?_ _ | with_reducible refine Up.drew ?_ | with_reducible refine Up.drewN ?_ _ | with_reducible refine Up.setCell ?_ (by (try simp) <;> omega) _ | with_reducible assumption | with_reducible refine Up.trans ?_ (by assumption)))⟩
set_option maxHeartbeats 800000 in
theorem model_bad (n : Int) (w : World) (h : ¬ (2 ≤ n ∧ n ≤ 5)) :
    Calls Try.prog 109 #[.int .i64 n] w fun e w' => e = .returned (.tuple #[.agg #[.int .i64 0, .int .i64 0], .int .i64 5]) ∧ Up w w' := by
  have h2 : (n == 2) = false := by simp; omega
  have h3 : (n == 3) = false := by simp; omega
  have h4 : (n == 4) = false := by simp; omega
  have h5 : (n == 5) = false := by simp; omega
  go_enter Try.func109, Try.ntmps109
  go_wp2
  exact bodyPost_ret (v := _) (by simp [results, Try.results109, go_sem]) rfl ⟨rfl, by (repeat (first | with_reducible exact Up.refl _ | with_reducible refine Up.alloc ?_ _ | with_reducible refine Up.drew ?_ | with_reducible refine Up.drewN ?_ _ | with_reducible refine Up.setCell ?_ (by (try simp) <;> omega) _ | with_reducible assumption | with_reducible refine Up.trans ?_ (by assumption)))⟩
set_option maxHeartbeats 800000 in
theorem ref_model_good (n : Int) (w : World) (h : 2 ≤ n ∧ n ≤ 5) :
    Calls Try.prog 110 #[.int .i64 n] w fun e w' => e = .returned (.tuple #[.agg #[.int .i64 (dims n).1, .int .i64 (dims n).2], .bool true]) ∧ Up w w' := by
  rcases (show n = 2 ∨ n = 3 ∨ n = 4 ∨ n = 5 by omega) with rfl | rfl | rfl | rfl
  all_goals
    go_enter Try.func110, Try.ntmps110
    go_wp2
    exact bodyPost_ret (v := _) (by simp [results, Try.results110, go_sem, dims]) rfl ⟨rfl, by (repeat (first | with_reducible exact Up.refl _ | with_reducible refine Up.alloc ?_ _ | with_reducible refine Up.drew ?_ | with_reducible refine Up.drewN ?_ _ | with_reducible refine Up.setCell ?_ (by (try simp) <;> omega) _ | with_reducible assumption | with_reducible refine Up.trans ?_ (by assumption)))⟩
set_option maxHeartbeats 800000 in
theorem ref_model_bad (n : Int) (w : World) (h : ¬ (2 ≤ n ∧ n ≤ 5)) :
    Calls Try.prog 110 #[.int .i64 n] w fun e w' => e = .returned (.tuple #[.agg #[.int .i64 0, .int .i64 0], .bool false]) ∧ Up w w' := by
  rcases (show n < 2 ∨ (2 ≤ n ∧ 5 < n) by omega) with h | ⟨h, h'⟩
  all_goals
    go_enter Try.func110, Try.ntmps110
    go_wp2
    exact bodyPost_ret (v := _) (by simp [results, Try.results110, go_sem]) rfl ⟨rfl, by (repeat (first | with_reducible exact Up.refl _ | with_reducible refine Up.alloc ?_ _ | with_reducible refine Up.drew ?_ | with_reducible refine Up.drewN ?_ _ | with_reducible refine Up.setCell ?_ (by (try simp) <;> omega) _ | with_reducible assumption | with_reducible refine Up.trans ?_ (by assumption)))⟩
/-- so many cells anew -/
theorem info_cell : (Try.prog.info? 25).map (fun i => (i.zero, i.size, i.bytes)) = some (some Cl.zero.val, 6, 6) := by kernel_rfl
theorem run_cells (m : Nat) (hm : m ≤ 65536) : ∃ O : Obj, (∀ w : World, (Instr.makeSlice 59 (.int .i64 (m : Int)) (.int .i64 (m : Int))).run Try.prog w = .ok (.slice (some ⟨w.heap.size, 0, none⟩) m m) (w.alloc O)) ∧ ∀ w : World, CellsAt (w.alloc O) w.heap.size (List.replicate m Cl.zero) := by
  obtain ⟨i0, hi, hz0, hz1, hz2⟩ := info_parts info_cell
  refine ⟨.cells (madeCells Cl.zero.val.cells (m * i0.size)) 25, fun w => ?_, fun w => ?_⟩
  · have := run_make (P := Try.prog) w 59 25 i0 _ Try.underlying59 hi hz0 .i64 .i64 (m : Int) (m : Int) (by omega) (by omega) (by rw [hz2]; omega) (by omega)
    simpa using this
  · rw [hz1]
    refine ⟨fun o => by simp, by simp, fun i c hi => ?_⟩
    obtain ⟨hlt, he⟩ := List.getElem?_eq_some_iff.1 hi
    simp at hlt he
    subst he
    have hc : ∀ j : Nat, j < 6 → (w.alloc (.cells (madeCells Cl.zero.val.cells (m * 6)) 25)).cell? ⟨w.heap.size, i * 6 + j, none⟩ = Cl.zero.enc[j]? := fun j hj => by
      rw [World.cell?_alloc_new]
      have hb : i * 6 + j < m * 6 := by omega
      have hmod : (i * 6 + j) % 6 = j := by omega
      show (madeCells #[.int .u8 0, .bool false, .int .u8 0, .int .u8 0, .int .u8 0, .int .u8 0] (m * 6))[i * 6 + j]? = _
      simp only [madeCells, Array.getElem?_map]
      rw [show (Array.range (m * 6))[i * 6 + j]? = some (i * 6 + j) from by simp [hb]]
      simp only [Option.map_some, List.size_toArray, List.length_cons, List.length_nil, Nat.reduceAdd, hmod]
      rcases (show j = 0 ∨ j = 1 ∨ j = 2 ∨ j = 3 ∨ j = 4 ∨ j = 5 by omega) with rfl | rfl | rfl | rfl | rfl | rfl <;> rfl
    exact ⟨hc 0 (by omega), hc 1 (by omega), hc 2 (by omega), hc 3 (by omega), hc 4 (by omega), hc 5 (by omega)⟩
end Go.Proofs.Ytjokcfenncogkaa
