/-
  What the reference's Clear and New do. No condition.
-/
import Derived.Test.YtjokcfenncogkaaRs3
namespace Go.Proofs.Ytjokcfenncogkaa
open Go.RowKit
set_option linter.unusedVariables false
set_option linter.unusedSimpArgs false

theorem rclear_end {w : World} {p : Nat} {m r c : Int} {a : Bool} {n : Nat} {O : Obj} {v4 v5 : Value} (hf : FreeAt w p) (zp : p < w.heap.size) (k0 : w.cell? ⟨p, 0, none⟩ = some (.int .i64 m)) (k1 : w.cell? ⟨p, 1, none⟩ = some (.bool a)) (k2 : w.cell? ⟨p, 2, none⟩ = some (.int .i64 r))
    (k3 : w.cell? ⟨p, 3, none⟩ = some (.int .i64 c)) (k4 : w.cell? ⟨p, 4, none⟩ = some v4) (k5 : w.cell? ⟨p, 5, none⟩ = some v5) (hn : n ≤ maxLen) (hO : ∀ w : World, CellsAt (w.alloc O) w.heap.size (List.replicate n Cl.zero)) :
    RAt (((w.setCell ⟨p, 4, none⟩ (.slice (some ⟨w.heap.size, 0, none⟩) n n)).setCell ⟨p, 5, none⟩ (.int .i64 0)).alloc O) p w.heap.size ⟨m, a, r, c, List.replicate n Cl.zero, 0⟩ := by
  have ne : p ≠ w.heap.size := by omega
  obtain ⟨w3, h3⟩ : ∃ w3, (w.setCell ⟨p, 4, none⟩ (.slice (some ⟨w.heap.size, 0, none⟩) n n)).setCell ⟨p, 5, none⟩ (.int .i64 0) = w3 := ⟨_, rfl⟩
  have hz : w3.heap.size = w.heap.size := by rw [← h3]; simp [World.setCell]
  have hu := ((Up.refl w3).alloc O).at_ p (by omega)
  have q : ∀ o, o ≠ 4 → o ≠ 5 → w3.cell? ⟨p, o, none⟩ = w.cell? ⟨p, o, none⟩ := fun o h4 h5 => by
    rw [← h3, World.cell?_setCell_other _ _ _ _ (ad_ne2 (Ne.symm h5)), World.cell?_setCell_other _ _ _ _ (ad_ne2 (Ne.symm h4))]
  have e4 : w3.cell? ⟨p, 4, none⟩ = some (.slice (some ⟨w.heap.size, 0, none⟩) n n) := by
    rw [← h3, World.cell?_setCell_other _ _ _ _ (ad_ne2 (by omega))]
    exact World.cell?_setCell_same (h := k4) ..
  have e5 : w3.cell? ⟨p, 5, none⟩ = some (.int .i64 0) := by
    rw [← h3]
    refine World.cell?_setCell_same (u := v5) (h := ?_) ..
    rw [World.cell?_setCell_other _ _ _ _ (ad_ne2 (by omega))]
    exact k5
  have f3 : FreeAt w3 p := by rw [← h3]; exact (hf.set _ _).set _ _
  have hC := hO w3
  rw [hz] at hC
  rw [h3]
  refine ⟨ne, by simp; omega, fun o => (hu.2 o).trans (f3 o), (hu.1 _).trans ((q 0 (by omega) (by omega)).trans k0), (hu.1 _).trans ((q 1 (by omega) (by omega)).trans k1), (hu.1 _).trans ((q 2 (by omega) (by omega)).trans k2), (hu.1 _).trans ((q 3 (by omega) (by omega)).trans k3), ⟨n, ?_⟩, (hu.1 _).trans e5, hC⟩
  simp only [List.length_replicate]
  exact ⟨Nat.le_refl _, hn, (hu.1 _).trans e4⟩
set_option maxHeartbeats 1600000 in
theorem rclear_raw {p : Nat} {m : Int} {v1 v2 v3 v4 v5 : Value} {w : World} (a : Bool) (hf : FreeAt w p) (zp : p < w.heap.size) (k0 : w.cell? ⟨p, 0, none⟩ = some (.int .i64 m)) (k1 : w.cell? ⟨p, 1, none⟩ = some v1) (k2 : w.cell? ⟨p, 2, none⟩ = some v2)
    (k3 : w.cell? ⟨p, 3, none⟩ = some v3) (k4 : w.cell? ⟨p, 4, none⟩ = some v4) (k5 : w.cell? ⟨p, 5, none⟩ = some v5) (h2 : 2 ≤ m) (h5 : m ≤ 5) :
    Calls Try.prog 111 #[.pointer (some ⟨p, 0, none⟩), .bool a] w fun e w' => e = .returned (.tuple #[]) ∧ ∃ g, w.heap.size ≤ g ∧ RAt w' p g (cleared m a) ∧ Keep (fun k => k = p) w w' := by
  have f1 := hf 1
  have f2 := hf 2
  have f3 := hf 3
  have f4 := hf 4
  have f5 := hf 5
  have HM2 := Lib.hid (fun w => ref_model_good 2 w (by omega))
  have hv := dims_valid (if a then m else 2)
  have hvf := valid_facts hv.1
  have HMO := Lib.hid (fun w => ref_model_good m w ⟨h2, h5⟩)
  have HV := Lib.hid hv.1
  obtain ⟨n, hn⟩ : ∃ n : Nat, ((dims (if a then m else 2)).1 * (dims (if a then m else 2)).2) = (n : Int) := ⟨((dims (if a then m else 2)).1 * (dims (if a then m else 2)).2).toNat, by omega⟩
  have hnb : n ≤ 3564 := by omega
  obtain ⟨O, hrun, hcells⟩ := run_cells n (by omega)
  have HX := Lib.hid (show cleared m a = ⟨m, a, (dims (if a then m else 2)).1, (dims (if a then m else 2)).2, List.replicate n Cl.zero, 0⟩ by unfold cleared; rw [hn]; simp)
  have HN := Lib.hid hn
  have HC := Lib.hid hcells
  have HF := Lib.hid hf
  clear hn hcells hvf hv hf
  cases a
  · simp only [Bool.false_eq_true, if_false] at HX HN HV
    generalize hr : (dims 2).1 = r2 at *
    generalize hc : (dims 2).2 = c2 at *
    clear hr hc
    go_enter Try.func111, Try.ntmps111
    go_wp2_with fail
    refine (HM2.out _).mono ?_
    rintro e w1 ⟨rfl, hb_w1⟩
    have hz_w1 := Up.size hb_w1
    try simp at hz_w1
    obtain ⟨bd_w1_0, be_w1_0⟩ := hb_w1.at_ (p) (by (try simp) <;> omega)
    have zb_w1_0 : p < w1.heap.size := by omega
    go_wp2_with fail
    refine (((ref_cells_good _ _ _ HV.out).mono fun e w' h => (show e = .returned (.int .i64 (n : Int)) ∧ Up _ w' by rw [← HN.out]; exact h))).mono ?_
    rintro e w2 ⟨rfl, hb_w2⟩
    have hz_w2 := Up.size hb_w2
    try simp at hz_w2
    obtain ⟨bd_w2_0, be_w2_0⟩ := hb_w2.at_ (p) (by (try simp) <;> omega)
    have zb_w2_0 : p < w2.heap.size := by omega
    go_wp2_with fail
    have fw : FreeAt w2 p := fun o => (be_w2_0 o).trans ((World.frozen?_setCell ..).trans ((World.frozen?_setCell ..).trans ((be_w1_0 o).trans ((World.frozen?_setCell ..).trans (HF.out o)))))
    have j0 : w2.cell? ⟨p, 0, none⟩ = some (.int .i64 m) := (bd_w2_0 0).trans (by simp [go_sem, bd_w1_0, *])
    have j1 : w2.cell? ⟨p, 1, none⟩ = some (.bool false) := (bd_w2_0 1).trans (by simp [go_sem, bd_w1_0, *])
    have j2 : w2.cell? ⟨p, 2, none⟩ = some (.int .i64 r2) := (bd_w2_0 2).trans (by simp [go_sem, bd_w1_0, *])
    have j3 : w2.cell? ⟨p, 3, none⟩ = some (.int .i64 c2) := (bd_w2_0 3).trans (by simp [go_sem, bd_w1_0, *])
    have j4 : w2.cell? ⟨p, 4, none⟩ = some v4 := (bd_w2_0 4).trans (by simp [go_sem, bd_w1_0, *])
    have j5 : w2.cell? ⟨p, 5, none⟩ = some v5 := (bd_w2_0 5).trans (by simp [go_sem, bd_w1_0, *])
    have hend := Lib.hid (rclear_end (n := n) (O := O) fw zb_w2_0 j0 j1 j2 j3 j4 j5 (by simp [maxLen]; omega) HC.out)
    go_end0
    refine ⟨rfl, w2.heap.size, by omega, by rw [HX.out]; exact hend.out, by (repeat (first | with_reducible exact Keep.refl _ _ | with_reducible refine Keep.alloc ?_ _ | with_reducible refine Keep.drew ?_ | with_reducible refine Keep.drewN ?_ _ | (refine Keep.setCell ?_ (by first | exact Or.inl rfl | exact Or.inl (Or.inl rfl) | exact Or.inl (Or.inr rfl) | (right; (try simp) <;> omega)) _) | with_reducible assumption | with_reducible refine Keep.up ?_ (by assumption)))⟩
  · simp only [if_true] at HX HN HV
    generalize hr : (dims m).1 = r at *
    generalize hc : (dims m).2 = c at *
    clear hr hc
    go_enter Try.func111, Try.ntmps111
    go_wp2_with fail
    refine (HM2.out _).mono ?_
    rintro e w1 ⟨rfl, hb_w1⟩
    have hz_w1 := Up.size hb_w1
    try simp at hz_w1
    obtain ⟨bd_w1_0, be_w1_0⟩ := hb_w1.at_ (p) (by (try simp) <;> omega)
    have zb_w1_0 : p < w1.heap.size := by omega
    go_wp2_with fail
    have d2 : w1.cell? ⟨p, 2, none⟩ = some v2 := (bd_w1_0 2).trans (by simp [go_sem, *])
    have d3 : w1.cell? ⟨p, 3, none⟩ = some v3 := (bd_w1_0 3).trans (by simp [go_sem, *])
    refine (HMO.out _).mono ?_
    rintro e w2 ⟨rfl, hb_w2⟩
    have hz_w2 := Up.size hb_w2
    simp at hz_w2
    obtain ⟨bd_w2_0, be_w2_0⟩ := hb_w2.at_ (p) (by (try simp) <;> omega)
    have zb_w2_0 : p < w2.heap.size := by omega
    have d0' : w2.cell? ⟨p, 0, none⟩ = some (.int .i64 m) := (bd_w2_0 0).trans (by simp [go_sem, bd_w1_0, *])
    have d1' : w2.cell? ⟨p, 1, none⟩ = some (.bool true) := (bd_w2_0 1).trans (by simp [go_sem, bd_w1_0, *])
    have d2' : w2.cell? ⟨p, 2, none⟩ = some (.int .i64 (dims 2).1) := (bd_w2_0 2).trans (by simp [go_sem, d2, d3])
    have d3' : w2.cell? ⟨p, 3, none⟩ = some (.int .i64 (dims 2).2) := (bd_w2_0 3).trans (by simp [go_sem, d2, d3])
    have d4' : w2.cell? ⟨p, 4, none⟩ = some v4 := (bd_w2_0 4).trans (by simp [go_sem, bd_w1_0, *])
    have d5' : w2.cell? ⟨p, 5, none⟩ = some v5 := (bd_w2_0 5).trans (by simp [go_sem, bd_w1_0, *])
    have FW2 := Lib.hid (show FreeAt w2 p from fun o => (be_w2_0 o).trans ((World.frozen?_setCell ..).trans ((World.frozen?_setCell ..).trans ((be_w1_0 o).trans ((World.frozen?_setCell ..).trans (HF.out o))))))
    have f2' := FW2.out 2
    have f3' := FW2.out 3
    have f4' := FW2.out 4
    have f5' := FW2.out 5
    clear bd_w2_0 be_w2_0 bd_w1_0 be_w1_0 d2 d3 k0 k1 k2 k3 k4 k5 f1 f2 f3 f4 f5
    go_wp2_with fail
    refine (((ref_cells_good _ _ _ HV.out).mono fun e w' h => (show e = .returned (.int .i64 (n : Int)) ∧ Up _ w' by rw [← HN.out]; exact h))).mono ?_
    rintro e w3 ⟨rfl, hb_w3⟩
    have hz_w3 := Up.size hb_w3
    try simp at hz_w3
    obtain ⟨bd_w3_0, be_w3_0⟩ := hb_w3.at_ (p) (by (try simp) <;> omega)
    have zb_w3_0 : p < w3.heap.size := by omega
    go_wp2_with fail
    have fw : FreeAt w3 p := fun o => (be_w3_0 o).trans ((World.frozen?_setCell ..).trans ((World.frozen?_setCell ..).trans (FW2.out o)))
    have j0 : w3.cell? ⟨p, 0, none⟩ = some (.int .i64 m) := (bd_w3_0 0).trans (by simp [go_sem, *])
    have j1 : w3.cell? ⟨p, 1, none⟩ = some (.bool true) := (bd_w3_0 1).trans (by simp [go_sem, *])
    have j2 : w3.cell? ⟨p, 2, none⟩ = some (.int .i64 r) := (bd_w3_0 2).trans (by simp [go_sem, *])
    have j3 : w3.cell? ⟨p, 3, none⟩ = some (.int .i64 c) := (bd_w3_0 3).trans (by simp [go_sem, *])
    have j4 : w3.cell? ⟨p, 4, none⟩ = some v4 := (bd_w3_0 4).trans (by simp [go_sem, *])
    have j5 : w3.cell? ⟨p, 5, none⟩ = some v5 := (bd_w3_0 5).trans (by simp [go_sem, *])
    have hend := Lib.hid (rclear_end (n := n) (O := O) fw zb_w3_0 j0 j1 j2 j3 j4 j5 (by simp [maxLen]; omega) HC.out)
    go_end0
    refine ⟨rfl, w3.heap.size, by omega, by rw [HX.out]; exact hend.out, by (repeat (first | with_reducible exact Keep.refl _ _ | with_reducible refine Keep.alloc ?_ _ | with_reducible refine Keep.drew ?_ | with_reducible refine Keep.drewN ?_ _ | (refine Keep.setCell ?_ (by first | exact Or.inl rfl | exact Or.inl (Or.inl rfl) | exact Or.inl (Or.inr rfl) | (right; (try simp) <;> omega)) _) | with_reducible assumption | with_reducible refine Keep.up ?_ (by assumption)))⟩
theorem rclear_is {p g : Nat} {X : Spc} {w : World} (a : Bool) (h : RAt w p g X) (ok : X.Ok) :
    Calls Try.prog 111 #[.pointer (some ⟨p, 0, none⟩), .bool a] w fun e w' => e = .returned (.tuple #[]) ∧ ∃ g', w.heap.size ≤ g' ∧ RAt w' p g' (X.clear a) ∧ Keep (fun k => k = p) w w' := by
  obtain ⟨_, zp, hf, k0, k1, k2, k3, ⟨cap, _, _, k4⟩, k5, _⟩ := h
  exact rclear_raw a hf zp k0 k1 k2 k3 k4 k5 ok.m2 ok.m5
set_option maxHeartbeats 1600000 in
theorem rnew_is {m : Int} {w : World} (h2 : 2 ≤ m) (h5 : m ≤ 5) :
    Calls Try.prog 23 #[.int .i64 m] w fun e w' => ∃ p g, e = .returned (.pointer (some ⟨p, 0, none⟩)) ∧ w.heap.size ≤ p ∧ w.heap.size ≤ g ∧ RAt w' p g (newS m) ∧ Up w w' := by
  have HM := Lib.hid (fun w => ref_model_good m w ⟨h2, h5⟩)
  generalize (dims m).1 = r at HM
  generalize (dims m).2 = c at HM
  go_enter Try.func23, Try.ntmps23
  go_wp2_with fail
  refine (HM.out _).mono ?_
  rintro e w1 ⟨rfl, hb_w1⟩
  have hu_w1 : Up w w1 := by (repeat (first | with_reducible exact Up.refl _ | with_reducible refine Up.alloc ?_ _ | with_reducible refine Up.drew ?_ | with_reducible refine Up.drewN ?_ _ | with_reducible refine Up.setCell ?_ (by (try simp) <;> omega) _ | with_reducible assumption | with_reducible refine Up.trans ?_ (by assumption)))
  have hz_w1 := Up.size hb_w1
  try simp at hz_w1
  go_wp2_with fail
  refine (rclear_raw (p := w1.heap.size + 1) (m := m) (v1 := .bool false) (v2 := .int .i64 0) (v3 := .int .i64 0) (v4 := .slice none 0 0) (v5 := .int .i64 0) false (fun o => by simp [go_sem]) (by simp) (by simp [go_sem]) (by simp [go_sem]) (by simp [go_sem]) (by simp [go_sem]) (by simp [go_sem]) (by simp [go_sem]) h2 h5).mono ?_
  rintro e w2 ⟨rfl, g, hg, hs, hk⟩
  simp at hg
  have hk2 : Up w1 w2 := Up.keep (((Up.refl w1).alloc _).alloc _) hk (fun i hi => by omega)
  have HS := Lib.hid hs
  have HK := Lib.hid (hb_w1.trans hk2)
  clear hs hk hk2
  go_wp2_with fail
  go_ret
  exact ⟨w1.heap.size + 1, g, rfl, by omega, by omega, HS.out, HK.out⟩
theorem rnew_bad {m : Int} {w : World} (h : ¬ (2 ≤ m ∧ m ≤ 5)) :
    Calls Try.prog 23 #[.int .i64 m] w fun e w' => e = .returned (.pointer none) ∧ Up w w' := by
  have HM := Lib.hid (fun w => ref_model_bad m w h)
  go_enter Try.func23, Try.ntmps23
  go_wp2_with fail
  refine (HM.out _).mono ?_
  rintro e w1 ⟨rfl, hb_w1⟩
  have hu_w1 : Up w w1 := by (repeat (first | with_reducible exact Up.refl _ | with_reducible refine Up.alloc ?_ _ | with_reducible refine Up.drew ?_ | with_reducible refine Up.drewN ?_ _ | with_reducible refine Up.setCell ?_ (by (try simp) <;> omega) _ | with_reducible assumption | with_reducible refine Up.trans ?_ (by assumption)))
  have hz_w1 := Up.size hb_w1
  try simp at hz_w1
  go_wp2_with fail
  go_ret
  exact ⟨rfl, by (repeat (first | with_reducible exact Up.refl _ | with_reducible refine Up.alloc ?_ _ | with_reducible refine Up.drew ?_ | with_reducible refine Up.drewN ?_ _ | with_reducible refine Up.setCell ?_ (by (try simp) <;> omega) _ | with_reducible assumption | with_reducible refine Up.trans ?_ (by assumption)))⟩
end Go.Proofs.Ytjokcfenncogkaa
