/-
  What the reference's Of makes of a field: Read Partition, Outbound. No condition.
-/
import Derived.Test.YtfambgigdhkiaaaDoorROf1
namespace Go.Proofs.YtfambgigdhkiaaaDoor
open Go.RowKit
set_option linter.unusedVariables false
set_option linter.unusedSimpArgs false


set_option maxRecDepth 100000 in
set_option maxHeartbeats 1600000 in
theorem ro_q1 {b off n c : Nat} {l : List Int} {w : World} {x y z cv : Int} (hb : b < w.heap.size) (hc : w.cell? ⟨b, off, none⟩ = some (.int .u8 x)) (hc1 : w.cell? ⟨b, off + 1, none⟩ = some (.int .u8 y)) (h0 : 1 < n) (hcm : Hid (∀ w, Calls Tryd.prog 38 #[.int .u8 y] w fun e w' => e = .returned (.int .i64 cv) ∧ w = w')) (hy : y = 2) (hn : n = 2) (hx : x = 255) :
    Calls Tryd.prog 21 #[.agg #[.int .u8 1, .slice (some ⟨b, off, none⟩) n c]] w (ActRet w (⟨1, 0, 0, false, 0, [], []⟩, 0)) := by
  have hb1 : b < w.heap.size + 1 := by omega
  have hb2 : b < w.heap.size + 1 + 1 := by omega
  subst hy hn hx
  go_enter Tryd.func21, Tryd.ntmps21
  go_wp2_with (go_at_call 38; refine (hcm.out _).mono ?_; rintro e w' ⟨rfl, rfl⟩)
  exact bodyPost_ret (v := .tuple #[actV ⟨1, 0, 0, false, 0, [], []⟩ none 0 none 0, .int .i64 0]) (by simp [results, Tryd.results21, go_sem, actV, zAct]) rfl (ActRet.plain rfl (by (repeat (first | with_reducible exact Up.refl _ | with_reducible refine Up.alloc ?_ _ | with_reducible refine Up.drew ?_ | with_reducible refine Up.drewN ?_ _ | with_reducible refine Up.setCell ?_ (by (try simp) <;> omega) _ | with_reducible assumption | with_reducible refine Up.trans ?_ (by assumption)))))


set_option maxRecDepth 100000 in
set_option maxHeartbeats 1600000 in
theorem ro_q2 {b off n c : Nat} {l : List Int} {w : World} {x y z cv : Int} (hb : b < w.heap.size) (hc : w.cell? ⟨b, off, none⟩ = some (.int .u8 x)) (hc1 : w.cell? ⟨b, off + 1, none⟩ = some (.int .u8 y)) (h0 : 1 < n) (hcm : Hid (∀ w, Calls Tryd.prog 38 #[.int .u8 y] w fun e w' => e = .returned (.int .i64 cv) ∧ w = w')) (hy : y = 2) (hn : n = 2) (hx : (x != 255) = true) :
    Calls Tryd.prog 21 #[.agg #[.int .u8 1, .slice (some ⟨b, off, none⟩) n c]] w (ActRet w (zAct, 1)) := by
  have hb1 : b < w.heap.size + 1 := by omega
  have hb2 : b < w.heap.size + 1 + 1 := by omega
  subst hy hn
  go_enter Tryd.func21, Tryd.ntmps21
  go_wp2_with (go_at_call 38; refine (hcm.out _).mono ?_; rintro e w' ⟨rfl, rfl⟩)
  exact bodyPost_ret (v := .tuple #[actV zAct none 0 none 0, .int .i64 1]) (by simp [results, Tryd.results21, go_sem, actV, zAct]) rfl (ActRet.zero rfl (by (repeat (first | with_reducible exact Up.refl _ | with_reducible refine Up.alloc ?_ _ | with_reducible refine Up.drew ?_ | with_reducible refine Up.drewN ?_ _ | with_reducible refine Up.setCell ?_ (by (try simp) <;> omega) _ | with_reducible assumption | with_reducible refine Up.trans ?_ (by assumption)))))


set_option maxRecDepth 100000 in
set_option maxHeartbeats 3200000 in
theorem ro_r4 {b off n c : Nat} {l : List Int} {w : World} {x y z cv : Int} (hb : b < w.heap.size) (hc : w.cell? ⟨b, off, none⟩ = some (.int .u8 x)) (hc1 : w.cell? ⟨b, off + 1, none⟩ = some (.int .u8 y)) (h0 : 1 < n) (hcm : Hid (∀ w, Calls Tryd.prog 38 #[.int .u8 y] w fun e w' => e = .returned (.int .i64 cv) ∧ w = w')) (h : (y = 2 ∧ ((n : Int) != 2) = true) ∨ (y = 3 ∧ n < 3) ∨ (y = 3 ∧ 3 ≤ n ∧ w.cell? ⟨b, off + 2, none⟩ = some (.int .u8 z) ∧ (z != 0) = true ∧ (z != 64) = true ∧ (z != 128) = true) ∨ ((y == 2) = false ∧ (y == 3) = false ∧ (¬ 5 ≤ cv ∨ (5 ≤ cv ∧ ¬ cv ≤ 7) ∨ (5 ≤ cv ∧ cv ≤ 7 ∧ ((n : Int) == 2) = false)))) :
    Calls Tryd.prog 21 #[.agg #[.int .u8 1, .slice (some ⟨b, off, none⟩) n c]] w (ActRet w (zAct, 4)) := by
  have hb1 : b < w.heap.size + 1 := by omega
  have hb2 : b < w.heap.size + 1 + 1 := by omega
  have h0' : (1 : Int) < n := by omega
  rcases h with ⟨rfl, h⟩ | ⟨rfl, h⟩ | ⟨rfl, h, hc2, z1, z2, z3⟩ | ⟨h2, h3, h | ⟨h, h'⟩ | ⟨h, h', h''⟩⟩
  all_goals try (have hn3 : (3 : Int) ≤ n := by omega)
  all_goals
    go_enter Tryd.func21, Tryd.ntmps21
    go_wp2_with (go_at_call 38; refine (hcm.out _).mono ?_; rintro e w' ⟨rfl, rfl⟩)
    exact bodyPost_ret (v := .tuple #[actV zAct none 0 none 0, .int .i64 4]) (by simp [results, Tryd.results21, go_sem, actV, zAct]) rfl (ActRet.zero rfl (by (repeat (first | with_reducible exact Up.refl _ | with_reducible refine Up.alloc ?_ _ | with_reducible refine Up.drew ?_ | with_reducible refine Up.drewN ?_ _ | with_reducible refine Up.setCell ?_ (by (try simp) <;> omega) _ | with_reducible assumption | with_reducible refine Up.trans ?_ (by assumption)))))


set_option maxRecDepth 100000 in
set_option maxHeartbeats 1600000 in
theorem ro_r5 {b off n c : Nat} {l : List Int} {w : World} {x y z cv : Int} (hb : b < w.heap.size) (hc : w.cell? ⟨b, off, none⟩ = some (.int .u8 x)) (hc1 : w.cell? ⟨b, off + 1, none⟩ = some (.int .u8 y)) (h0 : 1 < n) (hcm : Hid (∀ w, Calls Tryd.prog 38 #[.int .u8 y] w fun e w' => e = .returned (.int .i64 cv) ∧ w = w')) (h2 : (y == 2) = false) (h3 : (y == 3) = false) (h : 5 ≤ cv) (h' : cv ≤ 7) (hn : n = 2) (hx : x = 0) :
    Calls Tryd.prog 21 #[.agg #[.int .u8 1, .slice (some ⟨b, off, none⟩) n c]] w (ActRet w (⟨3, cv, 0, false, 0, [], []⟩, 0)) := by
  have hb1 : b < w.heap.size + 1 := by omega
  have hb2 : b < w.heap.size + 1 + 1 := by omega
  subst hn hx
  go_enter Tryd.func21, Tryd.ntmps21
  go_wp2_with (go_at_call 38; refine (hcm.out _).mono ?_; rintro e w' ⟨rfl, rfl⟩)
  exact bodyPost_ret (v := .tuple #[actV ⟨3, cv, 0, false, 0, [], []⟩ none 0 none 0, .int .i64 0]) (by simp [results, Tryd.results21, go_sem, actV, zAct]) rfl (ActRet.plain rfl (by (repeat (first | with_reducible exact Up.refl _ | with_reducible refine Up.alloc ?_ _ | with_reducible refine Up.drew ?_ | with_reducible refine Up.drewN ?_ _ | with_reducible refine Up.setCell ?_ (by (try simp) <;> omega) _ | with_reducible assumption | with_reducible refine Up.trans ?_ (by assumption)))))


set_option maxRecDepth 100000 in
set_option maxHeartbeats 1600000 in
theorem ro_r6 {b off n c : Nat} {l : List Int} {w : World} {x y z cv : Int} (hb : b < w.heap.size) (hc : w.cell? ⟨b, off, none⟩ = some (.int .u8 x)) (hc1 : w.cell? ⟨b, off + 1, none⟩ = some (.int .u8 y)) (h0 : 1 < n) (hcm : Hid (∀ w, Calls Tryd.prog 38 #[.int .u8 y] w fun e w' => e = .returned (.int .i64 cv) ∧ w = w')) (h2 : (y == 2) = false) (h3 : (y == 3) = false) (h : 5 ≤ cv) (h' : cv ≤ 7) (hn : n = 2) (hx : (x != 0) = true) :
    Calls Tryd.prog 21 #[.agg #[.int .u8 1, .slice (some ⟨b, off, none⟩) n c]] w (ActRet w (zAct, 1)) := by
  have hb1 : b < w.heap.size + 1 := by omega
  have hb2 : b < w.heap.size + 1 + 1 := by omega
  subst hn
  go_enter Tryd.func21, Tryd.ntmps21
  go_wp2_with (go_at_call 38; refine (hcm.out _).mono ?_; rintro e w' ⟨rfl, rfl⟩)
  exact bodyPost_ret (v := .tuple #[actV zAct none 0 none 0, .int .i64 1]) (by simp [results, Tryd.results21, go_sem, actV, zAct]) rfl (ActRet.zero rfl (by (repeat (first | with_reducible exact Up.refl _ | with_reducible refine Up.alloc ?_ _ | with_reducible refine Up.drew ?_ | with_reducible refine Up.drewN ?_ _ | with_reducible refine Up.setCell ?_ (by (try simp) <;> omega) _ | with_reducible assumption | with_reducible refine Up.trans ?_ (by assumption)))))


set_option maxRecDepth 100000 in
set_option maxHeartbeats 1600000 in
theorem ro_o4 {b off n c : Nat} {l : List Int} {w : World} {x y z cv : Int} (hb : b < w.heap.size) (hc : w.cell? ⟨b, off, none⟩ = some (.int .u8 x)) (hc1 : w.cell? ⟨b, off + 1, none⟩ = some (.int .u8 y)) (h0 : 1 < n) (hcm : Hid (∀ w, Calls Tryd.prog 38 #[.int .u8 y] w fun e w' => e = .returned (.int .i64 cv) ∧ w = w')) (h : cv < 0 ∨ (¬ cv < 0 ∧ 4 < cv)) :
    Calls Tryd.prog 21 #[.agg #[.int .u8 64, .slice (some ⟨b, off, none⟩) n c]] w (ActRet w (zAct, 4)) := by
  have hb1 : b < w.heap.size + 1 := by omega
  have hb2 : b < w.heap.size + 1 + 1 := by omega
  have h0' : (1 : Int) < n := by omega
  rcases h with h | ⟨h, h'⟩
  all_goals
    go_enter Tryd.func21, Tryd.ntmps21
    go_wp2_with (go_at_call 38; refine (hcm.out _).mono ?_; rintro e w' ⟨rfl, rfl⟩)
    exact bodyPost_ret (v := .tuple #[actV zAct none 0 none 0, .int .i64 4]) (by simp [results, Tryd.results21, go_sem, actV, zAct]) rfl (ActRet.zero rfl (by (repeat (first | with_reducible exact Up.refl _ | with_reducible refine Up.alloc ?_ _ | with_reducible refine Up.drew ?_ | with_reducible refine Up.drewN ?_ _ | with_reducible refine Up.setCell ?_ (by (try simp) <;> omega) _ | with_reducible assumption | with_reducible refine Up.trans ?_ (by assumption)))))


set_option maxRecDepth 100000 in
set_option maxHeartbeats 3200000 in
theorem ro_o1 {b off n c : Nat} {l : List Int} {w : World} {x y z cv : Int} (hb : b < w.heap.size) (hc : w.cell? ⟨b, off, none⟩ = some (.int .u8 x)) (hc1 : w.cell? ⟨b, off + 1, none⟩ = some (.int .u8 y)) (h0 : 1 < n) (hcm : Hid (∀ w, Calls Tryd.prog 38 #[.int .u8 y] w fun e w' => e = .returned (.int .i64 cv) ∧ w = w')) {B : Nat} (h : ¬ cv < 0) (h' : ¬ 4 < cv) (hcap : n ≤ c) (HC : Hid (Sl B w (some ⟨b, off + 1, none⟩) (n - 1) (c - 1) (l.drop 1))) (HL : Hid (l.length = n)) (hx : x = 0) :
    Calls Tryd.prog 21 #[.agg #[.int .u8 64, .slice (some ⟨b, off, none⟩) n c]] w (ActRet w (⟨9, 0, 0, false, 0, [], l.drop 1⟩, 0)) := by
  have hb1 : b < w.heap.size + 1 := by omega
  have hb2 : b < w.heap.size + 1 + 1 := by omega
  have h0' : (1 : Int) < n := by omega
  have hc1' : ¬ c = 1 := by omega
  subst hx
  go_enter Tryd.func21, Tryd.ntmps21
  go_wp2_with (first | (go_at_call 38; refine (hcm.out _).mono ?_; rintro e w' ⟨rfl, rfl⟩) | (go_at_call 13; refine (copy_sl (HC.out.up (by (repeat (first | with_reducible exact Up.refl _ | with_reducible refine Up.alloc ?_ _ | with_reducible refine Up.drew ?_ | with_reducible refine Up.drewN ?_ _ | with_reducible refine Up.setCell ?_ (by (try simp) <;> omega) _ | with_reducible assumption | with_reducible refine Up.trans ?_ (by assumption)))))).mono ?_; rintro e w2 ⟨A2, c2, rfl, hs2, hu2⟩; obtain ⟨ca, da⟩ := hu2.at_ w.heap.size (by (try simp) <;> omega); obtain ⟨cb, db⟩ := hu2.at_ (w.heap.size + 1) (by (try simp) <;> omega); obtain ⟨ce, de⟩ := hu2.at_ (w.heap.size + 1 + 1) (by (try simp) <;> omega); obtain ⟨cc, dc⟩ := hu2.at_ b (by (try simp) <;> omega); have hz2 := hu2.size; (try simp at hz2); have s0 : w.heap.size < w2.heap.size := (by omega); have s1 : w.heap.size + 1 < w2.heap.size := (by omega); have s3 : w.heap.size + 1 + 1 < w2.heap.size := (by omega); have s2 : b < w2.heap.size := (by omega)))
  refine bodyPost_ret (v := .tuple #[actV ⟨9, 0, 0, false, 0, [], l.drop 1⟩ none 0 A2 c2, .int .i64 0]) (by simp [results, Tryd.results21, go_sem, actV, zAct, HL.out, ca, cb, ce]) rfl ⟨none, 0, A2, c2, rfl, Sl.none_, Sl.low (B := w.heap.size + 1 + 1 + 1) ?_ (by omega), by (repeat (first | with_reducible exact Up.refl _ | with_reducible refine Up.alloc ?_ _ | with_reducible refine Up.drew ?_ | with_reducible refine Up.drewN ?_ _ | with_reducible refine Up.setCell ?_ (by (try simp) <;> omega) _ | with_reducible assumption | with_reducible refine Up.trans ?_ (by assumption)))⟩
  repeat with_reducible refine Sl.set1 ?_ (by omega) _ _
  have := hs2.norm
  simp at this
  simpa using this


set_option maxRecDepth 100000 in
set_option maxHeartbeats 3200000 in
theorem ro_o2 {b off n c : Nat} {l : List Int} {w : World} {x y z cv : Int} (hb : b < w.heap.size) (hc : w.cell? ⟨b, off, none⟩ = some (.int .u8 x)) (hc1 : w.cell? ⟨b, off + 1, none⟩ = some (.int .u8 y)) (h0 : 1 < n) (hcm : Hid (∀ w, Calls Tryd.prog 38 #[.int .u8 y] w fun e w' => e = .returned (.int .i64 cv) ∧ w = w')) {B : Nat} (h : ¬ cv < 0) (h' : ¬ 4 < cv) (hcap : n ≤ c) (HC : Hid (Sl B w (some ⟨b, off + 1, none⟩) (n - 1) (c - 1) (l.drop 1))) (HL : Hid (l.length = n)) (hx : (x != 0) = true) :
    Calls Tryd.prog 21 #[.agg #[.int .u8 64, .slice (some ⟨b, off, none⟩) n c]] w (ActRet w (zAct, 1)) := by
  have hb1 : b < w.heap.size + 1 := by omega
  have hb2 : b < w.heap.size + 1 + 1 := by omega
  have h0' : (1 : Int) < n := by omega
  have hc1' : ¬ c = 1 := by omega
  go_enter Tryd.func21, Tryd.ntmps21
  go_wp2_with (first | (go_at_call 38; refine (hcm.out _).mono ?_; rintro e w' ⟨rfl, rfl⟩) | (go_at_call 13; refine (copy_sl (HC.out.up (by (repeat (first | with_reducible exact Up.refl _ | with_reducible refine Up.alloc ?_ _ | with_reducible refine Up.drew ?_ | with_reducible refine Up.drewN ?_ _ | with_reducible refine Up.setCell ?_ (by (try simp) <;> omega) _ | with_reducible assumption | with_reducible refine Up.trans ?_ (by assumption)))))).mono ?_; rintro e w2 ⟨A2, c2, rfl, hs2, hu2⟩; obtain ⟨ca, da⟩ := hu2.at_ w.heap.size (by (try simp) <;> omega); obtain ⟨cb, db⟩ := hu2.at_ (w.heap.size + 1) (by (try simp) <;> omega); obtain ⟨ce, de⟩ := hu2.at_ (w.heap.size + 1 + 1) (by (try simp) <;> omega); obtain ⟨cc, dc⟩ := hu2.at_ b (by (try simp) <;> omega); have hz2 := hu2.size; (try simp at hz2); have s0 : w.heap.size < w2.heap.size := (by omega); have s1 : w.heap.size + 1 < w2.heap.size := (by omega); have s3 : w.heap.size + 1 + 1 < w2.heap.size := (by omega); have s2 : b < w2.heap.size := (by omega)))
  exact bodyPost_ret (v := .tuple #[actV zAct none 0 none 0, .int .i64 1]) (by simp [results, Tryd.results21, go_sem, actV, zAct, HL.out, ca, cb, ce]) rfl (ActRet.zero rfl (by (repeat (first | with_reducible exact Up.refl _ | with_reducible refine Up.alloc ?_ _ | with_reducible refine Up.drew ?_ | with_reducible refine Up.drewN ?_ _ | with_reducible refine Up.setCell ?_ (by (try simp) <;> omega) _ | with_reducible assumption | with_reducible refine Up.trans ?_ (by assumption)))))


end Go.Proofs.YtfambgigdhkiaaaDoor
