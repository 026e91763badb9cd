/-
  What the reference's Of makes of a field: Erase, Mode, partitions, none. No condition.
-/
import Derived.Test.YtfambgigdhkiaaaDoorSAct7
namespace Go.Proofs.YtfambgigdhkiaaaDoor
open Go.RowKit
set_option linter.unusedVariables false
set_option linter.unusedSimpArgs false


set_option maxRecDepth 100000 in
set_option maxHeartbeats 3200000 in
theorem ro_short {A : Option Addr} {n c : Nat} {id : Int} {w : World} (h : ((id = 1 ∨ id = 9 ∨ id = 64) ∧ n < 2) ∨ ((id = 12 ∨ id = 13 ∨ id = 14) ∧ n < 1) ∨ (id = 3 ∧ ((n : Int) != 1) = true) ∨ ((id = 13 ∨ id = 14) ∧ 1 < n)) :
    Calls Tryd.prog 21 #[.agg #[.int .u8 id, .slice A n c]] w (ActRet w (zAct, 4)) := by
  rcases h with ⟨rfl | rfl | rfl, h⟩ | ⟨rfl | rfl | rfl, h⟩ | ⟨rfl, h⟩ | ⟨rfl | rfl, h⟩
  all_goals
    go_enter Tryd.func21, Tryd.ntmps21
    go_wp2
    exact bodyPost_ret (v := .tuple #[actV zAct none 0 none 0, .int .i64 4]) (by simp [results, Tryd.results21, go_sem, actV, zAct]) rfl (ActRet.zero rfl (by (repeat (first | with_reducible exact Up.refl _ | with_reducible refine Up.alloc ?_ _ | with_reducible refine Up.drew ?_ | with_reducible refine Up.drewN ?_ _ | with_reducible refine Up.setCell ?_ (by (try simp) <;> omega) _ | with_reducible assumption | with_reducible refine Up.trans ?_ (by assumption)))))

set_option maxRecDepth 100000 in
set_option maxHeartbeats 1600000 in
theorem ro_none {A : Option Addr} {n c : Nat} {id : Int} {w : World} (e1 : (id == 1) = false) (e2 : (id == 3) = false) (e3 : (id == 9) = false) (e4 : (id == 12) = false) (e5 : (id == 13) = false) (e6 : (id == 14) = false) (e7 : (id == 64) = false) :
    Calls Tryd.prog 21 #[.agg #[.int .u8 id, .slice A n c]] w (ActRet w (zAct, 10)) := by
  go_enter Tryd.func21, Tryd.ntmps21
  go_wp2
  exact bodyPost_ret (v := .tuple #[actV zAct none 0 none 0, .int .i64 10]) (by simp [results, Tryd.results21, go_sem, actV, zAct]) rfl (ActRet.zero rfl (by (repeat (first | with_reducible exact Up.refl _ | with_reducible refine Up.alloc ?_ _ | with_reducible refine Up.drew ?_ | with_reducible refine Up.drewN ?_ _ | with_reducible refine Up.setCell ?_ (by (try simp) <;> omega) _ | with_reducible assumption | with_reducible refine Up.trans ?_ (by assumption)))))

set_option maxRecDepth 100000 in
set_option maxHeartbeats 1600000 in
theorem ro_erase0 {b off n c : Nat} {l : List Int} {w : World} {x y z cv : Int} (hb : b < w.heap.size) (hc : w.cell? ⟨b, off, none⟩ = some (.int .u8 x)) (hn : n = 1) (hx : x = 0) :
    Calls Tryd.prog 21 #[.agg #[.int .u8 3, .slice (some ⟨b, off, none⟩) n c]] w (ActRet w (⟨4, 0, 0, false, 0, [], []⟩, 0)) := by
  have hb1 : b < w.heap.size + 1 := by omega
  have hb2 : b < w.heap.size + 1 + 1 := by omega
  subst hn hx
  go_enter Tryd.func21, Tryd.ntmps21
  go_wp2
  exact bodyPost_ret (v := .tuple #[actV ⟨4, 0, 0, false, 0, [], []⟩ none 0 none 0, .int .i64 0]) (by simp [results, Tryd.results21, go_sem, actV, zAct]) rfl (ActRet.plain rfl (by (repeat (first | with_reducible exact Up.refl _ | with_reducible refine Up.alloc ?_ _ | with_reducible refine Up.drew ?_ | with_reducible refine Up.drewN ?_ _ | with_reducible refine Up.setCell ?_ (by (try simp) <;> omega) _ | with_reducible assumption | with_reducible refine Up.trans ?_ (by assumption)))))


set_option maxRecDepth 100000 in
set_option maxHeartbeats 1600000 in
theorem ro_erase1 {b off n c : Nat} {l : List Int} {w : World} {x y z cv : Int} (hb : b < w.heap.size) (hc : w.cell? ⟨b, off, none⟩ = some (.int .u8 x)) (hn : n = 1) (hx : x = 128) :
    Calls Tryd.prog 21 #[.agg #[.int .u8 3, .slice (some ⟨b, off, none⟩) n c]] w (ActRet w (⟨4, 0, 0, true, 0, [], []⟩, 0)) := by
  have hb1 : b < w.heap.size + 1 := by omega
  have hb2 : b < w.heap.size + 1 + 1 := by omega
  subst hn hx
  go_enter Tryd.func21, Tryd.ntmps21
  go_wp2
  exact bodyPost_ret (v := .tuple #[actV ⟨4, 0, 0, true, 0, [], []⟩ none 0 none 0, .int .i64 0]) (by simp [results, Tryd.results21, go_sem, actV, zAct]) rfl (ActRet.plain rfl (by (repeat (first | with_reducible exact Up.refl _ | with_reducible refine Up.alloc ?_ _ | with_reducible refine Up.drew ?_ | with_reducible refine Up.drewN ?_ _ | with_reducible refine Up.setCell ?_ (by (try simp) <;> omega) _ | with_reducible assumption | with_reducible refine Up.trans ?_ (by assumption)))))


set_option maxRecDepth 100000 in
set_option maxHeartbeats 1600000 in
theorem ro_erase2 {b off n c : Nat} {l : List Int} {w : World} {x y z cv : Int} (hb : b < w.heap.size) (hc : w.cell? ⟨b, off, none⟩ = some (.int .u8 x)) (hn : n = 1) (e0 : (x != 0) = true) (e1 : (x != 128) = true) :
    Calls Tryd.prog 21 #[.agg #[.int .u8 3, .slice (some ⟨b, off, none⟩) n c]] w (ActRet w (zAct, 4)) := by
  have hb1 : b < w.heap.size + 1 := by omega
  have hb2 : b < w.heap.size + 1 + 1 := by omega
  subst hn
  go_enter Tryd.func21, Tryd.ntmps21
  go_wp2
  exact bodyPost_ret (v := .tuple #[actV zAct none 0 none 0, .int .i64 4]) (by simp [results, Tryd.results21, go_sem, actV, zAct]) rfl (ActRet.zero rfl (by (repeat (first | with_reducible exact Up.refl _ | with_reducible refine Up.alloc ?_ _ | with_reducible refine Up.drew ?_ | with_reducible refine Up.drewN ?_ _ | with_reducible refine Up.setCell ?_ (by (try simp) <;> omega) _ | with_reducible assumption | with_reducible refine Up.trans ?_ (by assumption)))))


set_option maxRecDepth 100000 in
set_option maxHeartbeats 1600000 in
theorem ro_mode0 {b off n c : Nat} {l : List Int} {w : World} {x y z cv : Int} (hb : b < w.heap.size) (hc : w.cell? ⟨b, off, none⟩ = some (.int .u8 x)) (hc1 : w.cell? ⟨b, off + 1, none⟩ = some (.int .u8 y)) (h0 : 1 < n) (h : 2 < y ∨ (y < 2 ∧ 2 < n)) :
    Calls Tryd.prog 21 #[.agg #[.int .u8 9, .slice (some ⟨b, off, none⟩) n c]] w (ActRet w (zAct, 4)) := by
  have hb1 : b < w.heap.size + 1 := by omega
  have hb2 : b < w.heap.size + 1 + 1 := by omega
  have h0' : (1 : Int) < n := by omega
  rcases h with h | ⟨h, h2⟩
  all_goals
    go_enter Tryd.func21, Tryd.ntmps21
    go_wp2
    exact bodyPost_ret (v := .tuple #[actV zAct none 0 none 0, .int .i64 4]) (by simp [results, Tryd.results21, go_sem, actV, zAct]) rfl (ActRet.zero rfl (by (repeat (first | with_reducible exact Up.refl _ | with_reducible refine Up.alloc ?_ _ | with_reducible refine Up.drew ?_ | with_reducible refine Up.drewN ?_ _ | with_reducible refine Up.setCell ?_ (by (try simp) <;> omega) _ | with_reducible assumption | with_reducible refine Up.trans ?_ (by assumption)))))


set_option maxRecDepth 100000 in
set_option maxHeartbeats 3200000 in
theorem ro_mode1 {b off n c : Nat} {l : List Int} {w : World} {x y z cv : Int} (hb : b < w.heap.size) (hc : w.cell? ⟨b, off, none⟩ = some (.int .u8 x)) (hc1 : w.cell? ⟨b, off + 1, none⟩ = some (.int .u8 y)) (h0 : 1 < n) (hy : 0 ≤ y ∧ y ≤ 255) (hx : x = 0) (h : (y < 2 ∧ ¬ 2 < (n : Int)) ∨ (¬ y < 2 ∧ ¬ 2 < y)) :
    Calls Tryd.prog 21 #[.agg #[.int .u8 9, .slice (some ⟨b, off, none⟩) n c]] w (ActRet w (⟨5, 0, y, false, 0, [], []⟩, 0)) := by
  have hb1 : b < w.heap.size + 1 := by omega
  have hb2 : b < w.heap.size + 1 + 1 := by omega
  have h0' : (1 : Int) < n := by omega
  subst hx
  rcases h with ⟨h, h2⟩ | ⟨h, h2⟩
  (have h3 : ¬ 2 < y := (by omega))
  all_goals
    go_enter Tryd.func21, Tryd.ntmps21
    go_wp2
    go_region
    all_goals
      go_wp2
      exact bodyPost_ret (v := .tuple #[actV ⟨5, 0, y, false, 0, [], []⟩ none 0 none 0, .int .i64 0]) (by simp [results, Tryd.results21, go_sem, actV, zAct]) rfl (ActRet.plain rfl (by (repeat (first | with_reducible exact Up.refl _ | with_reducible refine Up.alloc ?_ _ | with_reducible refine Up.drew ?_ | with_reducible refine Up.drewN ?_ _ | with_reducible refine Up.setCell ?_ (by (try simp) <;> omega) _ | with_reducible assumption | with_reducible refine Up.trans ?_ (by assumption)))))


set_option maxRecDepth 100000 in
set_option maxHeartbeats 3200000 in
theorem ro_mode2 {b off n c : Nat} {l : List Int} {w : World} {x y z cv : Int} (hb : b < w.heap.size) (hc : w.cell? ⟨b, off, none⟩ = some (.int .u8 x)) (hc1 : w.cell? ⟨b, off + 1, none⟩ = some (.int .u8 y)) (h0 : 1 < n) (hy : 0 ≤ y ∧ y ≤ 255) (hx : (x != 0) = true) (h : (y < 2 ∧ ¬ 2 < (n : Int)) ∨ (¬ y < 2 ∧ ¬ 2 < y)) :
    Calls Tryd.prog 21 #[.agg #[.int .u8 9, .slice (some ⟨b, off, none⟩) n c]] w (ActRet w (zAct, 1)) := by
  have hb1 : b < w.heap.size + 1 := by omega
  have hb2 : b < w.heap.size + 1 + 1 := by omega
  have h0' : (1 : Int) < n := by omega
  rcases h with ⟨h, h2⟩ | ⟨h, h2⟩
  (have h3 : ¬ 2 < y := (by omega))
  all_goals
    go_enter Tryd.func21, Tryd.ntmps21
    go_wp2
    go_region
    all_goals
      go_wp2
      exact bodyPost_ret (v := .tuple #[actV zAct none 0 none 0, .int .i64 1]) (by simp [results, Tryd.results21, go_sem, actV, zAct]) rfl (ActRet.zero rfl (by (repeat (first | with_reducible exact Up.refl _ | with_reducible refine Up.alloc ?_ _ | with_reducible refine Up.drew ?_ | with_reducible refine Up.drewN ?_ _ | with_reducible refine Up.setCell ?_ (by (try simp) <;> omega) _ | with_reducible assumption | with_reducible refine Up.trans ?_ (by assumption)))))


set_option maxRecDepth 100000 in
set_option maxHeartbeats 1600000 in
theorem ro_part12 {b off n c : Nat} {l : List Int} {w : World} {x y z cv : Int} (hb : b < w.heap.size) (hc : w.cell? ⟨b, off, none⟩ = some (.int .u8 x)) (hn : 0 < n) (hx : x = 0) :
    Calls Tryd.prog 21 #[.agg #[.int .u8 12, .slice (some ⟨b, off, none⟩) n c]] w (ActRet w (⟨6, 0, 0, false, 0, [], []⟩, 0)) := by
  have hb1 : b < w.heap.size + 1 := by omega
  have hb2 : b < w.heap.size + 1 + 1 := by omega
  have h0 : (0 : Int) < n := by omega
  subst hx
  go_enter Tryd.func21, Tryd.ntmps21
  go_wp2
  exact bodyPost_ret (v := .tuple #[actV ⟨6, 0, 0, false, 0, [], []⟩ none 0 none 0, .int .i64 0]) (by simp [results, Tryd.results21, go_sem, actV, zAct]) rfl (ActRet.plain rfl (by (repeat (first | with_reducible exact Up.refl _ | with_reducible refine Up.alloc ?_ _ | with_reducible refine Up.drew ?_ | with_reducible refine Up.drewN ?_ _ | with_reducible refine Up.setCell ?_ (by (try simp) <;> omega) _ | with_reducible assumption | with_reducible refine Up.trans ?_ (by assumption)))))


set_option maxRecDepth 100000 in
set_option maxHeartbeats 1600000 in
theorem ro_part12n {b off n c : Nat} {l : List Int} {w : World} {x y z cv : Int} (hb : b < w.heap.size) (hc : w.cell? ⟨b, off, none⟩ = some (.int .u8 x)) (hn : 0 < n) (hx : (x != 0) = true) :
    Calls Tryd.prog 21 #[.agg #[.int .u8 12, .slice (some ⟨b, off, none⟩) n c]] w (ActRet w (zAct, 1)) := by
  have hb1 : b < w.heap.size + 1 := by omega
  have hb2 : b < w.heap.size + 1 + 1 := by omega
  have h0 : (0 : Int) < n := by omega
  go_enter Tryd.func21, Tryd.ntmps21
  go_wp2
  exact bodyPost_ret (v := .tuple #[actV zAct none 0 none 0, .int .i64 1]) (by simp [results, Tryd.results21, go_sem, actV, zAct]) rfl (ActRet.zero rfl (by (repeat (first | with_reducible exact Up.refl _ | with_reducible refine Up.alloc ?_ _ | with_reducible refine Up.drew ?_ | with_reducible refine Up.drewN ?_ _ | with_reducible refine Up.setCell ?_ (by (try simp) <;> omega) _ | with_reducible assumption | with_reducible refine Up.trans ?_ (by assumption)))))


set_option maxRecDepth 100000 in
set_option maxHeartbeats 1600000 in
theorem ro_part13 {b off n c : Nat} {l : List Int} {w : World} {x y z cv : Int} (hb : b < w.heap.size) (hc : w.cell? ⟨b, off, none⟩ = some (.int .u8 x)) (hn : n = 1) (hx : x = 0) :
    Calls Tryd.prog 21 #[.agg #[.int .u8 13, .slice (some ⟨b, off, none⟩) n c]] w (ActRet w (⟨7, 0, 0, false, 0, [], []⟩, 0)) := by
  have hb1 : b < w.heap.size + 1 := by omega
  have hb2 : b < w.heap.size + 1 + 1 := by omega
  subst hn
  subst hx
  go_enter Tryd.func21, Tryd.ntmps21
  go_wp2
  exact bodyPost_ret (v := .tuple #[actV ⟨7, 0, 0, false, 0, [], []⟩ none 0 none 0, .int .i64 0]) (by simp [results, Tryd.results21, go_sem, actV, zAct]) rfl (ActRet.plain rfl (by (repeat (first | with_reducible exact Up.refl _ | with_reducible refine Up.alloc ?_ _ | with_reducible refine Up.drew ?_ | with_reducible refine Up.drewN ?_ _ | with_reducible refine Up.setCell ?_ (by (try simp) <;> omega) _ | with_reducible assumption | with_reducible refine Up.trans ?_ (by assumption)))))


set_option maxRecDepth 100000 in
set_option maxHeartbeats 1600000 in
theorem ro_part13n {b off n c : Nat} {l : List Int} {w : World} {x y z cv : Int} (hb : b < w.heap.size) (hc : w.cell? ⟨b, off, none⟩ = some (.int .u8 x)) (hn : n = 1) (hx : (x != 0) = true) :
    Calls Tryd.prog 21 #[.agg #[.int .u8 13, .slice (some ⟨b, off, none⟩) n c]] w (ActRet w (zAct, 1)) := by
  have hb1 : b < w.heap.size + 1 := by omega
  have hb2 : b < w.heap.size + 1 + 1 := by omega
  subst hn
  go_enter Tryd.func21, Tryd.ntmps21
  go_wp2
  exact bodyPost_ret (v := .tuple #[actV zAct none 0 none 0, .int .i64 1]) (by simp [results, Tryd.results21, go_sem, actV, zAct]) rfl (ActRet.zero rfl (by (repeat (first | with_reducible exact Up.refl _ | with_reducible refine Up.alloc ?_ _ | with_reducible refine Up.drew ?_ | with_reducible refine Up.drewN ?_ _ | with_reducible refine Up.setCell ?_ (by (try simp) <;> omega) _ | with_reducible assumption | with_reducible refine Up.trans ?_ (by assumption)))))


set_option maxRecDepth 100000 in
set_option maxHeartbeats 1600000 in
theorem ro_part14 {b off n c : Nat} {l : List Int} {w : World} {x y z cv : Int} (hb : b < w.heap.size) (hc : w.cell? ⟨b, off, none⟩ = some (.int .u8 x)) (hn : n = 1) (hx : x = 0) :
    Calls Tryd.prog 21 #[.agg #[.int .u8 14, .slice (some ⟨b, off, none⟩) n c]] w (ActRet w (⟨8, 0, 0, false, 0, [], []⟩, 0)) := by
  have hb1 : b < w.heap.size + 1 := by omega
  have hb2 : b < w.heap.size + 1 + 1 := by omega
  subst hn
  subst hx
  go_enter Tryd.func21, Tryd.ntmps21
  go_wp2
  exact bodyPost_ret (v := .tuple #[actV ⟨8, 0, 0, false, 0, [], []⟩ none 0 none 0, .int .i64 0]) (by simp [results, Tryd.results21, go_sem, actV, zAct]) rfl (ActRet.plain rfl (by (repeat (first | with_reducible exact Up.refl _ | with_reducible refine Up.alloc ?_ _ | with_reducible refine Up.drew ?_ | with_reducible refine Up.drewN ?_ _ | with_reducible refine Up.setCell ?_ (by (try simp) <;> omega) _ | with_reducible assumption | with_reducible refine Up.trans ?_ (by assumption)))))


set_option maxRecDepth 100000 in
set_option maxHeartbeats 1600000 in
theorem ro_part14n {b off n c : Nat} {l : List Int} {w : World} {x y z cv : Int} (hb : b < w.heap.size) (hc : w.cell? ⟨b, off, none⟩ = some (.int .u8 x)) (hn : n = 1) (hx : (x != 0) = true) :
    Calls Tryd.prog 21 #[.agg #[.int .u8 14, .slice (some ⟨b, off, none⟩) n c]] w (ActRet w (zAct, 1)) := by
  have hb1 : b < w.heap.size + 1 := by omega
  have hb2 : b < w.heap.size + 1 + 1 := by omega
  subst hn
  go_enter Tryd.func21, Tryd.ntmps21
  go_wp2
  exact bodyPost_ret (v := .tuple #[actV zAct none 0 none 0, .int .i64 1]) (by simp [results, Tryd.results21, go_sem, actV, zAct]) rfl (ActRet.zero rfl (by (repeat (first | with_reducible exact Up.refl _ | with_reducible refine Up.alloc ?_ _ | with_reducible refine Up.drew ?_ | with_reducible refine Up.drewN ?_ _ | with_reducible refine Up.setCell ?_ (by (try simp) <;> omega) _ | with_reducible assumption | with_reducible refine Up.trans ?_ (by assumption)))))


end Go.Proofs.YtfambgigdhkiaaaDoor
