/-
  What sfield's Act makes of a field: Read Partition. Condition: write's table lies as the row lists it.
-/
import Derived.Test.YtfambgigdhkiaaaDoorSAct4
namespace Go.Proofs.YtfambgigdhkiaaaDoor
open Go.RowKit
set_option linter.unusedVariables false
set_option linter.unusedSimpArgs false

set_option maxHeartbeats 3200000 in
theorem rd_query {B : Nat} {b off n c : Nat} {l : List Int} {w : World} {x y cv : Int} {okv : Bool} (HT : Hid (TabW w)) (h : Sl B w (some ⟨b, off, none⟩) n c l) (hcm : Hid (∀ w, TabW w → Calls Tryd.prog 44 #[.int .u8 y] w fun e w' => e = .returned (.tuple #[.int .i64 cv, .bool okv]) ∧ Up w w')) (hb : b < w.heap.size)
    (hc : w.cell? ⟨b, off, none⟩ = some (.int .u8 x)) (hc1 : w.cell? ⟨b, off + 1, none⟩ = some (.int .u8 y)) (hy : y = 2) (hn : n = 2) :
    Calls Tryd.prog 33 #[.slice (some ⟨b, off, none⟩) n c] w (ActRet w (if x = 255 then (⟨1, 0, 0, false, 0, [], []⟩, 0) else (zAct, 1))) := by

  clear h
  subst hy hn
  by_cases g : x = 255
  · subst g
    rw [if_pos rfl]
    go_enter Tryd.func33, Tryd.ntmps33
    go_wp2_with fail
    refine (hcm.out _ (HT.out.up (by (repeat (first | with_reducible exact Up.refl _ | with_reducible refine Up.alloc ?_ _ | with_reducible refine Up.drew ?_ | with_reducible refine Up.drewN ?_ _ | with_reducible refine Up.setCell ?_ (by (try simp) <;> omega) _ | with_reducible assumption | with_reducible refine Up.trans ?_ (by assumption)))))).mono ?_
    rintro e w1 ⟨rfl, hb_w1⟩
    have hu_w1 : Up w w1 := by (repeat (first | with_reducible exact Up.refl _ | with_reducible refine Up.alloc ?_ _ | with_reducible refine Up.drew ?_ | with_reducible refine Up.drewN ?_ _ | with_reducible refine Up.setCell ?_ (by (try simp) <;> omega) _ | with_reducible assumption | with_reducible refine Up.trans ?_ (by assumption)))
    have hz_w1 := Up.size hb_w1
    try simp at hz_w1
    obtain ⟨bd_w1_0, be_w1_0⟩ := hb_w1.at_ (w.heap.size) (by (try simp) <;> omega)
    obtain ⟨bd_w1_1, be_w1_1⟩ := hb_w1.at_ (w.heap.size + 1) (by (try simp) <;> omega)
    obtain ⟨bd_w1_2, be_w1_2⟩ := hb_w1.at_ (b) (by (try simp) <;> omega)
    have zb_w1_0 : w.heap.size < w1.heap.size := by omega
    have zb_w1_1 : w.heap.size + 1 < w1.heap.size := by omega
    have zb_w1_2 : b < w1.heap.size := by omega
    go_wp2_with fail
    exact bodyPost_ret (v := .tuple #[actV ⟨1, 0, 0, false, 0, [], []⟩ none 0 none 0, .int .i64 0]) (by simp [results, Tryd.results33, go_sem, actV, zAct, bd_w1_0, bd_w1_1]) rfl (ActRet.plain rfl (by (repeat (first | with_reducible exact Up.refl _ | with_reducible refine Up.alloc ?_ _ | with_reducible refine Up.drew ?_ | with_reducible refine Up.drewN ?_ _ | with_reducible refine Up.setCell ?_ (by (try simp) <;> omega) _ | with_reducible assumption | with_reducible refine Up.trans ?_ (by assumption)))))
  · rw [if_neg g]
    have e0 : (x != 255) = true := by simpa using g
    clear g
    go_enter Tryd.func33, Tryd.ntmps33
    go_wp2_with fail
    refine (hcm.out _ (HT.out.up (by (repeat (first | with_reducible exact Up.refl _ | with_reducible refine Up.alloc ?_ _ | with_reducible refine Up.drew ?_ | with_reducible refine Up.drewN ?_ _ | with_reducible refine Up.setCell ?_ (by (try simp) <;> omega) _ | with_reducible assumption | with_reducible refine Up.trans ?_ (by assumption)))))).mono ?_
    rintro e w1 ⟨rfl, hb_w1⟩
    have hu_w1 : Up w w1 := by (repeat (first | with_reducible exact Up.refl _ | with_reducible refine Up.alloc ?_ _ | with_reducible refine Up.drew ?_ | with_reducible refine Up.drewN ?_ _ | with_reducible refine Up.setCell ?_ (by (try simp) <;> omega) _ | with_reducible assumption | with_reducible refine Up.trans ?_ (by assumption)))
    have hz_w1 := Up.size hb_w1
    try simp at hz_w1
    obtain ⟨bd_w1_0, be_w1_0⟩ := hb_w1.at_ (w.heap.size) (by (try simp) <;> omega)
    obtain ⟨bd_w1_1, be_w1_1⟩ := hb_w1.at_ (w.heap.size + 1) (by (try simp) <;> omega)
    obtain ⟨bd_w1_2, be_w1_2⟩ := hb_w1.at_ (b) (by (try simp) <;> omega)
    have zb_w1_0 : w.heap.size < w1.heap.size := by omega
    have zb_w1_1 : w.heap.size + 1 < w1.heap.size := by omega
    have zb_w1_2 : b < w1.heap.size := by omega
    go_wp2_with fail
    exact bodyPost_ret (v := .tuple #[actV zAct none 0 none 0, .int .i64 1]) (by simp [results, Tryd.results33, go_sem, actV, zAct, bd_w1_0, bd_w1_1]) rfl (ActRet.zero rfl (by (repeat (first | with_reducible exact Up.refl _ | with_reducible refine Up.alloc ?_ _ | with_reducible refine Up.drew ?_ | with_reducible refine Up.drewN ?_ _ | with_reducible refine Up.setCell ?_ (by (try simp) <;> omega) _ | with_reducible assumption | with_reducible refine Up.trans ?_ (by assumption)))))

set_option maxHeartbeats 3200000 in
theorem rd_none {B : Nat} {b off n c : Nat} {l : List Int} {w : World} {x y cv : Int} {okv : Bool} (HT : Hid (TabW w)) (h : Sl B w (some ⟨b, off, none⟩) n c l) (hcm : Hid (∀ w, TabW w → Calls Tryd.prog 44 #[.int .u8 y] w fun e w' => e = .returned (.tuple #[.int .i64 cv, .bool okv]) ∧ Up w w')) (hb : b < w.heap.size)
    (hc : w.cell? ⟨b, off, none⟩ = some (.int .u8 x)) (hc1 : w.cell? ⟨b, off + 1, none⟩ = some (.int .u8 y)) (h0 : 1 < n) (h2 : (y == 2) = false ∨ ((y == 2) = true ∧ ((n : Int) == 2) = false)) (h3 : (y == 3) = false ∨ ((y == 3) = true ∧ n < 3) ∨ ((y == 3) = true ∧ 3 ≤ n ∧ ∃ z : Int, w.cell? ⟨b, off + 2, none⟩ = some (.int .u8 z) ∧ (z == 0) = false ∧ (z == 64) = false ∧ (z == 128) = false)) (h4 : okv = false ∨ (okv = true ∧ (5 ≤ cv → ¬ cv ≤ 7)) ∨ (okv = true ∧ 5 ≤ cv ∧ cv ≤ 7 ∧ ((n : Int) == 2) = false)) :
    Calls Tryd.prog 33 #[.slice (some ⟨b, off, none⟩) n c] w (ActRet w (zAct, 4)) := by

  clear h
  have h0' : (1 : Int) < n := by omega
  have hrd := Lib.hid (fun w => reads_is cv w)
  have HG : Hid (okv = false ∨ (okv = true ∧ (decide (5 ≤ cv) && decide (cv ≤ 7)) = false) ∨ (okv = true ∧ (decide (5 ≤ cv) && decide (cv ≤ 7)) = true ∧ ((n : Int) == 2) = false)) := by
    rcases h4 with h4 | ⟨h4, h5⟩ | ⟨h4, h5, h6, h7⟩
    · exact .inl h4
    · exact .inr (.inl ⟨h4, by simp; omega⟩)
    · exact .inr (.inr ⟨h4, by simp [h5, h6], h7⟩)
  obtain ⟨r, hr⟩ : ∃ r, (decide (5 ≤ cv) && decide (cv ≤ 7)) = r := ⟨_, rfl⟩
  rw [hr] at hrd HG
  have h4' := HG.out
  clear HG h4 hr
  rcases h2 with h2 | ⟨h2, h2'⟩
  all_goals rcases h3 with h3 | ⟨h3, h3'⟩ | ⟨h3, h3', z, hz, z1, z2, z3⟩
  all_goals rcases h4' with rfl | ⟨rfl, rfl⟩ | ⟨rfl, rfl, h7⟩
  all_goals try (exfalso; have e2 := of_decide_eq_true h2; have e3 := of_decide_eq_true h3; omega)
  all_goals try (have hz' : (3 : Int) ≤ n := by omega)
  all_goals
    go_enter Tryd.func33, Tryd.ntmps33
    go_wp2_with fail
    refine (hcm.out _ (HT.out.up (by (repeat (first | with_reducible exact Up.refl _ | with_reducible refine Up.alloc ?_ _ | with_reducible refine Up.drew ?_ | with_reducible refine Up.drewN ?_ _ | with_reducible refine Up.setCell ?_ (by (try simp) <;> omega) _ | with_reducible assumption | with_reducible refine Up.trans ?_ (by assumption)))))).mono ?_
    rintro e w1 ⟨rfl, hb_w1⟩
    have hu_w1 : Up w w1 := by (repeat (first | with_reducible exact Up.refl _ | with_reducible refine Up.alloc ?_ _ | with_reducible refine Up.drew ?_ | with_reducible refine Up.drewN ?_ _ | with_reducible refine Up.setCell ?_ (by (try simp) <;> omega) _ | with_reducible assumption | with_reducible refine Up.trans ?_ (by assumption)))
    have hz_w1 := Up.size hb_w1
    try simp at hz_w1
    obtain ⟨bd_w1_0, be_w1_0⟩ := hb_w1.at_ (w.heap.size) (by (try simp) <;> omega)
    obtain ⟨bd_w1_1, be_w1_1⟩ := hb_w1.at_ (w.heap.size + 1) (by (try simp) <;> omega)
    obtain ⟨bd_w1_2, be_w1_2⟩ := hb_w1.at_ (b) (by (try simp) <;> omega)
    have zb_w1_0 : w.heap.size < w1.heap.size := by omega
    have zb_w1_1 : w.heap.size + 1 < w1.heap.size := by omega
    have zb_w1_2 : b < w1.heap.size := by omega
    go_wp2_with fail
    try go_wp2_with (go_at_call 45; refine (hrd.out _).mono ?_; rintro e w' ⟨rfl, rfl⟩)
    exact bodyPost_ret (v := .tuple #[actV zAct none 0 none 0, .int .i64 4]) (by simp [results, Tryd.results33, go_sem, actV, zAct, bd_w1_0, bd_w1_1]) rfl (ActRet.zero rfl (by (repeat (first | with_reducible exact Up.refl _ | with_reducible refine Up.alloc ?_ _ | with_reducible refine Up.drew ?_ | with_reducible refine Up.drewN ?_ _ | with_reducible refine Up.setCell ?_ (by (try simp) <;> omega) _ | with_reducible assumption | with_reducible refine Up.trans ?_ (by assumption)))))

end Go.Proofs.YtfambgigdhkiaaaDoor
