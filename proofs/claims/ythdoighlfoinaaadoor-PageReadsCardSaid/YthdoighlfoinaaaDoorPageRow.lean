/-
  What page's row computes. No condition.
-/
import Derived.Test.YthdoighlfoinaaaDoorPageL
import Derived.Test.YthdoighlfoinaaaDoorKeep
import Derived.Deep.MidRow
import Derived.Laws.CopyOwn
namespace Go.Proofs.YthdoighlfoinaaaDoor
open Go.RowKit
set_option linter.unusedVariables false
set_option linter.unusedSimpArgs false

theorem up_setRow {w : World} {o : Obj} (cs : Array Value) : Up w ((w.alloc o).setRow w.heap.size cs) := below_setRow ((Up.refl w).alloc o) (Nat.le_refl _) cs
/-- the sixteen signs of a digit -/
def rowV (d : Nat) : Array Value := (((base37.drop (16 * d)).take 16).map (Value.int .u16)).toArray
set_option maxRecDepth 100000 in
set_option maxHeartbeats 1600000 in
theorem row_0 (w : World) : Calls Tryd.prog 40 #[.int .i64 0] w fun e w' => e = .returned (.agg (rowV 0)) ∧ Up w w' := by
  go_enter Tryd.func40, Tryd.ntmps40
  go_wp2_with (refine wpList_store_row rfl 91 (.tmp 2) (.tmp 6) rfl w.heap.size (rowV 0) rfl (by kernel_rfl) 91 _ (heap_alloc_new w _) (by kernel_rfl) (by kernel_rfl) (by kernel_rfl) ?_)
  exact bodyPost_ret (v := .agg (rowV 0)) (results_cell_row rfl _ _ w.heap.size 91 (rowV 0) (0, 0) _ rfl (setRow_heap _ _ _ _ _ _ (heap_alloc_new w _)) Tryd.underlying91 rfl (by kernel_rfl)) rfl ⟨rfl, up_setRow _⟩
set_option maxRecDepth 100000 in
set_option maxHeartbeats 1600000 in
theorem row_1 (w : World) : Calls Tryd.prog 40 #[.int .i64 1] w fun e w' => e = .returned (.agg (rowV 1)) ∧ Up w w' := by
  go_enter Tryd.func40, Tryd.ntmps40
  go_wp2_with (refine wpList_store_row rfl 91 (.tmp 2) (.tmp 9) rfl w.heap.size (rowV 1) rfl (by kernel_rfl) 91 _ (heap_alloc_new w _) (by kernel_rfl) (by kernel_rfl) (by kernel_rfl) ?_)
  exact bodyPost_ret (v := .agg (rowV 1)) (results_cell_row rfl _ _ w.heap.size 91 (rowV 1) (0, 0) _ rfl (setRow_heap _ _ _ _ _ _ (heap_alloc_new w _)) Tryd.underlying91 rfl (by kernel_rfl)) rfl ⟨rfl, up_setRow _⟩
set_option maxRecDepth 100000 in
set_option maxHeartbeats 1600000 in
theorem row_2 (w : World) : Calls Tryd.prog 40 #[.int .i64 2] w fun e w' => e = .returned (.agg (rowV 2)) ∧ Up w w' := by
  go_enter Tryd.func40, Tryd.ntmps40
  go_wp2_with (refine wpList_store_row rfl 91 (.tmp 2) (.tmp 12) rfl w.heap.size (rowV 2) rfl (by kernel_rfl) 91 _ (heap_alloc_new w _) (by kernel_rfl) (by kernel_rfl) (by kernel_rfl) ?_)
  exact bodyPost_ret (v := .agg (rowV 2)) (results_cell_row rfl _ _ w.heap.size 91 (rowV 2) (0, 0) _ rfl (setRow_heap _ _ _ _ _ _ (heap_alloc_new w _)) Tryd.underlying91 rfl (by kernel_rfl)) rfl ⟨rfl, up_setRow _⟩
set_option maxRecDepth 100000 in
set_option maxHeartbeats 1600000 in
theorem row_3 (w : World) : Calls Tryd.prog 40 #[.int .i64 3] w fun e w' => e = .returned (.agg (rowV 3)) ∧ Up w w' := by
  go_enter Tryd.func40, Tryd.ntmps40
  go_wp2_with (refine wpList_store_row rfl 91 (.tmp 2) (.tmp 15) rfl w.heap.size (rowV 3) rfl (by kernel_rfl) 91 _ (heap_alloc_new w _) (by kernel_rfl) (by kernel_rfl) (by kernel_rfl) ?_)
  exact bodyPost_ret (v := .agg (rowV 3)) (results_cell_row rfl _ _ w.heap.size 91 (rowV 3) (0, 0) _ rfl (setRow_heap _ _ _ _ _ _ (heap_alloc_new w _)) Tryd.underlying91 rfl (by kernel_rfl)) rfl ⟨rfl, up_setRow _⟩
set_option maxRecDepth 100000 in
set_option maxHeartbeats 1600000 in
theorem row_4 (w : World) : Calls Tryd.prog 40 #[.int .i64 4] w fun e w' => e = .returned (.agg (rowV 4)) ∧ Up w w' := by
  go_enter Tryd.func40, Tryd.ntmps40
  go_wp2_with (refine wpList_store_row rfl 91 (.tmp 2) (.tmp 18) rfl w.heap.size (rowV 4) rfl (by kernel_rfl) 91 _ (heap_alloc_new w _) (by kernel_rfl) (by kernel_rfl) (by kernel_rfl) ?_)
  exact bodyPost_ret (v := .agg (rowV 4)) (results_cell_row rfl _ _ w.heap.size 91 (rowV 4) (0, 0) _ rfl (setRow_heap _ _ _ _ _ _ (heap_alloc_new w _)) Tryd.underlying91 rfl (by kernel_rfl)) rfl ⟨rfl, up_setRow _⟩
set_option maxRecDepth 100000 in
set_option maxHeartbeats 1600000 in
theorem row_5 (w : World) : Calls Tryd.prog 40 #[.int .i64 5] w fun e w' => e = .returned (.agg (rowV 5)) ∧ Up w w' := by
  go_enter Tryd.func40, Tryd.ntmps40
  go_wp2_with (refine wpList_store_row rfl 91 (.tmp 2) (.tmp 21) rfl w.heap.size (rowV 5) rfl (by kernel_rfl) 91 _ (heap_alloc_new w _) (by kernel_rfl) (by kernel_rfl) (by kernel_rfl) ?_)
  exact bodyPost_ret (v := .agg (rowV 5)) (results_cell_row rfl _ _ w.heap.size 91 (rowV 5) (0, 0) _ rfl (setRow_heap _ _ _ _ _ _ (heap_alloc_new w _)) Tryd.underlying91 rfl (by kernel_rfl)) rfl ⟨rfl, up_setRow _⟩
set_option maxRecDepth 100000 in
set_option maxHeartbeats 1600000 in
theorem row_6 (w : World) : Calls Tryd.prog 40 #[.int .i64 6] w fun e w' => e = .returned (.agg (rowV 6)) ∧ Up w w' := by
  go_enter Tryd.func40, Tryd.ntmps40
  go_wp2_with (refine wpList_store_row rfl 91 (.tmp 2) (.tmp 24) rfl w.heap.size (rowV 6) rfl (by kernel_rfl) 91 _ (heap_alloc_new w _) (by kernel_rfl) (by kernel_rfl) (by kernel_rfl) ?_)
  exact bodyPost_ret (v := .agg (rowV 6)) (results_cell_row rfl _ _ w.heap.size 91 (rowV 6) (0, 0) _ rfl (setRow_heap _ _ _ _ _ _ (heap_alloc_new w _)) Tryd.underlying91 rfl (by kernel_rfl)) rfl ⟨rfl, up_setRow _⟩
set_option maxRecDepth 100000 in
set_option maxHeartbeats 1600000 in
theorem row_7 (w : World) : Calls Tryd.prog 40 #[.int .i64 7] w fun e w' => e = .returned (.agg (rowV 7)) ∧ Up w w' := by
  go_enter Tryd.func40, Tryd.ntmps40
  go_wp2_with (refine wpList_store_row rfl 91 (.tmp 2) (.tmp 27) rfl w.heap.size (rowV 7) rfl (by kernel_rfl) 91 _ (heap_alloc_new w _) (by kernel_rfl) (by kernel_rfl) (by kernel_rfl) ?_)
  exact bodyPost_ret (v := .agg (rowV 7)) (results_cell_row rfl _ _ w.heap.size 91 (rowV 7) (0, 0) _ rfl (setRow_heap _ _ _ _ _ _ (heap_alloc_new w _)) Tryd.underlying91 rfl (by kernel_rfl)) rfl ⟨rfl, up_setRow _⟩
set_option maxRecDepth 100000 in
set_option maxHeartbeats 1600000 in
theorem row_8 (w : World) : Calls Tryd.prog 40 #[.int .i64 8] w fun e w' => e = .returned (.agg (rowV 8)) ∧ Up w w' := by
  go_enter Tryd.func40, Tryd.ntmps40
  go_wp2_with (refine wpList_store_row rfl 91 (.tmp 2) (.tmp 30) rfl w.heap.size (rowV 8) rfl (by kernel_rfl) 91 _ (heap_alloc_new w _) (by kernel_rfl) (by kernel_rfl) (by kernel_rfl) ?_)
  exact bodyPost_ret (v := .agg (rowV 8)) (results_cell_row rfl _ _ w.heap.size 91 (rowV 8) (0, 0) _ rfl (setRow_heap _ _ _ _ _ _ (heap_alloc_new w _)) Tryd.underlying91 rfl (by kernel_rfl)) rfl ⟨rfl, up_setRow _⟩
set_option maxRecDepth 100000 in
set_option maxHeartbeats 1600000 in
theorem row_9 (w : World) : Calls Tryd.prog 40 #[.int .i64 9] w fun e w' => e = .returned (.agg (rowV 9)) ∧ Up w w' := by
  go_enter Tryd.func40, Tryd.ntmps40
  go_wp2_with (refine wpList_store_row rfl 91 (.tmp 2) (.tmp 33) rfl w.heap.size (rowV 9) rfl (by kernel_rfl) 91 _ (heap_alloc_new w _) (by kernel_rfl) (by kernel_rfl) (by kernel_rfl) ?_)
  exact bodyPost_ret (v := .agg (rowV 9)) (results_cell_row rfl _ _ w.heap.size 91 (rowV 9) (0, 0) _ rfl (setRow_heap _ _ _ _ _ _ (heap_alloc_new w _)) Tryd.underlying91 rfl (by kernel_rfl)) rfl ⟨rfl, up_setRow _⟩
set_option maxRecDepth 100000 in
set_option maxHeartbeats 1600000 in
theorem row_10 (w : World) : Calls Tryd.prog 40 #[.int .i64 10] w fun e w' => e = .returned (.agg (rowV 10)) ∧ Up w w' := by
  go_enter Tryd.func40, Tryd.ntmps40
  go_wp2_with (refine wpList_store_row rfl 91 (.tmp 2) (.tmp 36) rfl w.heap.size (rowV 10) rfl (by kernel_rfl) 91 _ (heap_alloc_new w _) (by kernel_rfl) (by kernel_rfl) (by kernel_rfl) ?_)
  exact bodyPost_ret (v := .agg (rowV 10)) (results_cell_row rfl _ _ w.heap.size 91 (rowV 10) (0, 0) _ rfl (setRow_heap _ _ _ _ _ _ (heap_alloc_new w _)) Tryd.underlying91 rfl (by kernel_rfl)) rfl ⟨rfl, up_setRow _⟩
set_option maxRecDepth 100000 in
set_option maxHeartbeats 1600000 in
theorem row_11 (w : World) : Calls Tryd.prog 40 #[.int .i64 11] w fun e w' => e = .returned (.agg (rowV 11)) ∧ Up w w' := by
  go_enter Tryd.func40, Tryd.ntmps40
  go_wp2_with (refine wpList_store_row rfl 91 (.tmp 2) (.tmp 39) rfl w.heap.size (rowV 11) rfl (by kernel_rfl) 91 _ (heap_alloc_new w _) (by kernel_rfl) (by kernel_rfl) (by kernel_rfl) ?_)
  exact bodyPost_ret (v := .agg (rowV 11)) (results_cell_row rfl _ _ w.heap.size 91 (rowV 11) (0, 0) _ rfl (setRow_heap _ _ _ _ _ _ (heap_alloc_new w _)) Tryd.underlying91 rfl (by kernel_rfl)) rfl ⟨rfl, up_setRow _⟩
set_option maxRecDepth 100000 in
set_option maxHeartbeats 1600000 in
theorem row_12 (w : World) : Calls Tryd.prog 40 #[.int .i64 12] w fun e w' => e = .returned (.agg (rowV 12)) ∧ Up w w' := by
  go_enter Tryd.func40, Tryd.ntmps40
  go_wp2_with (refine wpList_store_row rfl 91 (.tmp 2) (.tmp 42) rfl w.heap.size (rowV 12) rfl (by kernel_rfl) 91 _ (heap_alloc_new w _) (by kernel_rfl) (by kernel_rfl) (by kernel_rfl) ?_)
  exact bodyPost_ret (v := .agg (rowV 12)) (results_cell_row rfl _ _ w.heap.size 91 (rowV 12) (0, 0) _ rfl (setRow_heap _ _ _ _ _ _ (heap_alloc_new w _)) Tryd.underlying91 rfl (by kernel_rfl)) rfl ⟨rfl, up_setRow _⟩
set_option maxRecDepth 100000 in
set_option maxHeartbeats 1600000 in
theorem row_13 (w : World) : Calls Tryd.prog 40 #[.int .i64 13] w fun e w' => e = .returned (.agg (rowV 13)) ∧ Up w w' := by
  go_enter Tryd.func40, Tryd.ntmps40
  go_wp2_with (refine wpList_store_row rfl 91 (.tmp 2) (.tmp 45) rfl w.heap.size (rowV 13) rfl (by kernel_rfl) 91 _ (heap_alloc_new w _) (by kernel_rfl) (by kernel_rfl) (by kernel_rfl) ?_)
  exact bodyPost_ret (v := .agg (rowV 13)) (results_cell_row rfl _ _ w.heap.size 91 (rowV 13) (0, 0) _ rfl (setRow_heap _ _ _ _ _ _ (heap_alloc_new w _)) Tryd.underlying91 rfl (by kernel_rfl)) rfl ⟨rfl, up_setRow _⟩
set_option maxRecDepth 100000 in
set_option maxHeartbeats 1600000 in
theorem row_14 (w : World) : Calls Tryd.prog 40 #[.int .i64 14] w fun e w' => e = .returned (.agg (rowV 14)) ∧ Up w w' := by
  go_enter Tryd.func40, Tryd.ntmps40
  go_wp2_with (refine wpList_store_row rfl 91 (.tmp 2) (.tmp 48) rfl w.heap.size (rowV 14) rfl (by kernel_rfl) 91 _ (heap_alloc_new w _) (by kernel_rfl) (by kernel_rfl) (by kernel_rfl) ?_)
  exact bodyPost_ret (v := .agg (rowV 14)) (results_cell_row rfl _ _ w.heap.size 91 (rowV 14) (0, 0) _ rfl (setRow_heap _ _ _ _ _ _ (heap_alloc_new w _)) Tryd.underlying91 rfl (by kernel_rfl)) rfl ⟨rfl, up_setRow _⟩
set_option maxRecDepth 100000 in
set_option maxHeartbeats 1600000 in
theorem row_15 (w : World) : Calls Tryd.prog 40 #[.int .i64 15] w fun e w' => e = .returned (.agg (rowV 15)) ∧ Up w w' := by
  go_enter Tryd.func40, Tryd.ntmps40
  go_wp2_with (refine wpList_store_row rfl 91 (.tmp 2) (.tmp 51) rfl w.heap.size (rowV 15) rfl (by kernel_rfl) 91 _ (heap_alloc_new w _) (by kernel_rfl) (by kernel_rfl) (by kernel_rfl) ?_)
  exact bodyPost_ret (v := .agg (rowV 15)) (results_cell_row rfl _ _ w.heap.size 91 (rowV 15) (0, 0) _ rfl (setRow_heap _ _ _ _ _ _ (heap_alloc_new w _)) Tryd.underlying91 rfl (by kernel_rfl)) rfl ⟨rfl, up_setRow _⟩
theorem row_is (d : Nat) (hd : d < 16) (w : World) :
    Calls Tryd.prog 40 #[.int .i64 (d : Int)] w fun e w' => e = .returned (.agg (rowV d)) ∧ Up w w' := by
  obtain rfl | rfl | rfl | rfl | rfl | rfl | rfl | rfl | rfl | rfl | rfl | rfl | rfl | rfl | rfl | rfl : d = 0 ∨ d = 1 ∨ d = 2 ∨ d = 3 ∨ d = 4 ∨ d = 5 ∨ d = 6 ∨ d = 7 ∨ d = 8 ∨ d = 9 ∨ d = 10 ∨ d = 11 ∨ d = 12 ∨ d = 13 ∨ d = 14 ∨ d = 15 := by omega
  · exact row_0 w
  · exact row_1 w
  · exact row_2 w
  · exact row_3 w
  · exact row_4 w
  · exact row_5 w
  · exact row_6 w
  · exact row_7 w
  · exact row_8 w
  · exact row_9 w
  · exact row_10 w
  · exact row_11 w
  · exact row_12 w
  · exact row_13 w
  · exact row_14 w
  · exact row_15 w
end Go.Proofs.YthdoighlfoinaaaDoor
