/-
What addr's and the reference's Model compute. No condition.
What space's Clear and New do. No condition.
How the reference's screen lies in memory; what its Wrap, At, Fit, Set, Put compute. No condition.
What the reference's Fit, Set, Put, Clear, New do. No condition.
-/
import Derived.Test.YtamfjgioajmnpaaGreatDoorJa5
import Derived.Test.YtamfjgioajmnpaaGreatDoorJa6
namespace Go.Proofs.YtamfjgioajmnpaaGreatDoor
open Go.RowKit
set_option linter.unusedVariables false
set_option linter.unusedSimpArgs false

set_option maxHeartbeats 800000 in
theorem model_good (n : Int) (w : World) (h : 2 ≤ n ∧ n ≤ 5) :
    Calls Tryz.prog 61 #[.int .i64 n] w fun e w' => e = .returned (.tuple #[.agg #[.int .i64 (dims n).1, .int .i64 (dims n).2], .int .i64 0]) ∧ Up w w' := by
  rcases (show n = 2 ∨ n = 3 ∨ n = 4 ∨ n = 5 by omega) with rfl | rfl | rfl | rfl
  all_goals
    go_enter Tryz.func61, Tryz.ntmps61
    go_wp2
    exact bodyPost_ret (v := _) (by simp [results, Tryz.results61, go_sem, dims]) rfl ⟨rfl, by (repeat (first | with_reducible exact Up.refl _ | with_reducible refine Up.alloc ?_ _ | with_reducible refine Up.drew ?_ | with_reducible refine Up.drewN ?_ _ | with_reducible refine Up.setCell ?_ (by (try simp) <;> omega) _ | with_reducible assumption | with_reducible refine Up.trans ?_ (by assumption)))⟩
/-- so many cells anew -/
theorem info_cell : (Tryz.prog.info? 99).map (fun i => (i.zero, i.size, i.bytes)) = some (some Cl.zero.val, 6, 6) := by kernel_rfl
theorem run_cells (m : Nat) (hm : m ≤ 65536) : ∃ O : Obj, (∀ w : World, (Instr.makeSlice 95 (.int .i64 (m : Int)) (.int .i64 (m : Int))).run Tryz.prog w = .ok (.slice (some ⟨w.heap.size, 0, none⟩) m m) (w.alloc O)) ∧ ∀ w : World, CellsAt (w.alloc O) w.heap.size (List.replicate m Cl.zero) := by
  obtain ⟨i0, hi, hz0, hz1, hz2⟩ := info_parts info_cell
  refine ⟨.cells (madeCells Cl.zero.val.cells (m * i0.size)) 99, fun w => ?_, fun w => ?_⟩
  · have := run_make (P := Tryz.prog) w 95 99 i0 _ Tryz.underlying95 hi hz0 .i64 .i64 (m : Int) (m : Int) (by omega) (by omega) (by rw [hz2]; omega) (by omega)
    simpa using this
  · rw [hz1]
    refine ⟨fun o => by simp, by simp, fun i c hi => ?_⟩
    obtain ⟨hlt, he⟩ := List.getElem?_eq_some_iff.1 hi
    simp at hlt he
    subst he
    have hc : ∀ j : Nat, j < 6 → (w.alloc (.cells (madeCells Cl.zero.val.cells (m * 6)) 99)).cell? ⟨w.heap.size, i * 6 + j, none⟩ = Cl.zero.enc[j]? := fun j hj => by
      rw [World.cell?_alloc_new]
      have hb : i * 6 + j < m * 6 := by omega
      have hmod : (i * 6 + j) % 6 = j := by omega
      show (madeCells #[.int .u8 0, .bool false, .int .u8 0, .int .u8 0, .int .u8 0, .int .u8 0] (m * 6))[i * 6 + j]? = _
      simp only [madeCells, Array.getElem?_map]
      rw [show (Array.range (m * 6))[i * 6 + j]? = some (i * 6 + j) from by simp [hb]]
      simp only [Option.map_some, List.size_toArray, List.length_cons, List.length_nil, Nat.reduceAdd, hmod]
      rcases (show j = 0 ∨ j = 1 ∨ j = 2 ∨ j = 3 ∨ j = 4 ∨ j = 5 by omega) with rfl | rfl | rfl | rfl | rfl | rfl <;> rfl
    exact ⟨hc 0 (by omega), hc 1 (by omega), hc 2 (by omega), hc 3 (by omega), hc 4 (by omega), hc 5 (by omega)⟩
end Go.Proofs.YtamfjgioajmnpaaGreatDoor
namespace Go.Proofs.YtamfjgioajmnpaaGreatDoor
open Go.RowKit
set_option linter.unusedVariables false
set_option linter.unusedSimpArgs false

def cleared (m : Int) (a : Bool) : Spc := ⟨m, a, (dims (if a then m else 2)).1, (dims (if a then m else 2)).2, List.replicate ((dims (if a then m else 2)).1 * (dims (if a then m else 2)).2).toNat Cl.zero, 0⟩
theorem attrsN_zero (n : Nat) : attrsN (List.replicate n Cl.zero) = 0 := by
  unfold attrsN
  induction n with
  | zero => rfl
  | succ n ih => simp only [List.replicate_succ, List.map_cons, List.sum_cons, ih]; rfl
theorem cleared_ok {m : Int} (h2 : 2 ≤ m) (h5 : m ≤ 5) (a : Bool) : (cleared m a).Ok := by
  have hv := dims_valid (if a then m else 2)
  have h1 := valid_facts hv.1
  refine ⟨h2, h5, rfl, ?_, ?_, ?_, by simp [cleared], ?_⟩
  · simp only [cleared, List.length_replicate]; omega
  · intro c hc; simp only [cleared] at hc; rw [List.eq_of_mem_replicate hc]; exact Cl.zero_wf
  · intro c hc; simp only [cleared] at hc; rw [List.eq_of_mem_replicate hc]; rfl
  · simp only [cleared, List.length_replicate]; omega
theorem clear_end {w : World} {p : Nat} {m r c : Int} {a : Bool} {n : Nat} {O : Obj} {v4 v5 v6 : Value} (hf : FreeAt w p) (zp : p < w.heap.size) (k0 : w.cell? ⟨p, 0, none⟩ = some (.int .i64 m)) (k1 : w.cell? ⟨p, 1, none⟩ = some (.bool a)) (k2 : w.cell? ⟨p, 2, none⟩ = some (.int .i64 r))
    (k3 : w.cell? ⟨p, 3, none⟩ = some (.int .i64 c)) (k4 : w.cell? ⟨p, 4, none⟩ = some v4) (k5 : w.cell? ⟨p, 5, none⟩ = some v5) (k6 : w.cell? ⟨p, 6, none⟩ = some v6) (hn : n ≤ maxLen) (hO : ∀ w : World, CellsAt (w.alloc O) w.heap.size (List.replicate n Cl.zero)) :
    SAt ((((w.setCell ⟨p, 4, none⟩ (.slice (some ⟨w.heap.size, 0, none⟩) n n)).setCell ⟨p, 5, none⟩ (.int .i64 0)).setCell ⟨p, 6, none⟩ (.int .i64 0)).alloc O) p w.heap.size ⟨m, a, r, c, List.replicate n Cl.zero, 0⟩ := by
  have ne : p ≠ w.heap.size := by omega
  obtain ⟨w3, h3⟩ : ∃ w3, ((w.setCell ⟨p, 4, none⟩ (.slice (some ⟨w.heap.size, 0, none⟩) n n)).setCell ⟨p, 5, none⟩ (.int .i64 0)).setCell ⟨p, 6, none⟩ (.int .i64 0) = w3 := ⟨_, rfl⟩
  have hz : w3.heap.size = w.heap.size := by rw [← h3]; simp [World.setCell]
  have hu := ((Up.refl w3).alloc O).at_ p (by omega)
  have q : ∀ o, o ≠ 4 → o ≠ 5 → o ≠ 6 → w3.cell? ⟨p, o, none⟩ = w.cell? ⟨p, o, none⟩ := fun o h4 h5 h6 => by
    rw [← h3, World.cell?_setCell_other _ _ _ _ (ad_ne2 (Ne.symm h6)), World.cell?_setCell_other _ _ _ _ (ad_ne2 (Ne.symm h5)), World.cell?_setCell_other _ _ _ _ (ad_ne2 (Ne.symm h4))]
  have e4 : w3.cell? ⟨p, 4, none⟩ = some (.slice (some ⟨w.heap.size, 0, none⟩) n n) := by
    rw [← h3, World.cell?_setCell_other _ _ _ _ (ad_ne2 (by omega)), World.cell?_setCell_other _ _ _ _ (ad_ne2 (by omega))]
    exact World.cell?_setCell_same (h := k4) ..
  have e5 : w3.cell? ⟨p, 5, none⟩ = some (.int .i64 0) := by
    rw [← h3, World.cell?_setCell_other _ _ _ _ (ad_ne2 (by omega))]
    refine World.cell?_setCell_same (u := v5) (h := ?_) ..
    rw [World.cell?_setCell_other _ _ _ _ (ad_ne2 (by omega))]
    exact k5
  have e6 : w3.cell? ⟨p, 6, none⟩ = some (.int .i64 0) := by
    rw [← h3]
    refine World.cell?_setCell_same (u := v6) (h := ?_) ..
    rw [World.cell?_setCell_other _ _ _ _ (ad_ne2 (by omega)), World.cell?_setCell_other _ _ _ _ (ad_ne2 (by omega))]
    exact k6
  have f3 : FreeAt w3 p := by rw [← h3]; exact ((hf.set _ _).set _ _).set _ _
  have hC := hO w3
  rw [hz] at hC
  rw [h3]
  refine ⟨ne, by simp; omega, fun o => (hu.2 o).trans (f3 o), (hu.1 _).trans ((q 0 (by omega) (by omega) (by omega)).trans k0), (hu.1 _).trans ((q 1 (by omega) (by omega) (by omega)).trans k1), (hu.1 _).trans ((q 2 (by omega) (by omega) (by omega)).trans k2), (hu.1 _).trans ((q 3 (by omega) (by omega) (by omega)).trans k3), ⟨n, ?_⟩, (hu.1 _).trans e5, ?_, hC⟩
  · simp only [List.length_replicate]
    exact ⟨Nat.le_refl _, hn, (hu.1 _).trans e4⟩
  · rw [attrsN_zero]; exact (hu.1 _).trans e6
set_option maxHeartbeats 1600000 in
theorem sclear_raw {p : Nat} {m : Int} {v1 v2 v3 v4 v5 v6 : Value} {w : World} (a : Bool) (hf : FreeAt w p) (zp : p < w.heap.size) (k0 : w.cell? ⟨p, 0, none⟩ = some (.int .i64 m)) (k1 : w.cell? ⟨p, 1, none⟩ = some v1) (k2 : w.cell? ⟨p, 2, none⟩ = some v2)
    (k3 : w.cell? ⟨p, 3, none⟩ = some v3) (k4 : w.cell? ⟨p, 4, none⟩ = some v4) (k5 : w.cell? ⟨p, 5, none⟩ = some v5) (k6 : w.cell? ⟨p, 6, none⟩ = some v6) (h2 : 2 ≤ m) (h5 : m ≤ 5) :
    Calls Tryz.prog 19 #[.pointer (some ⟨p, 0, none⟩), .bool a] w fun e w' => e = .returned (.tuple #[]) ∧ ∃ g, w.heap.size ≤ g ∧ SAt w' p g (cleared m a) ∧ Keep (fun k => k = p) w w' := by
  have f1 := hf 1
  have f2 := hf 2
  have f3 := hf 3
  have f4 := hf 4
  have f5 := hf 5
  have f6 := hf 6
  obtain ⟨mm, hmm⟩ : ∃ mm, (if a then m else 2) = mm := ⟨_, rfl⟩
  have hmb : 2 ≤ mm ∧ mm ≤ 5 := by rw [← hmm]; cases a <;> simp <;> omega
  have hv := dims_valid mm
  have hvf := valid_facts hv.1
  have HMO := Lib.hid (fun w => model_good mm w hmb)
  have HV := Lib.hid hv.1
  obtain ⟨r, hr⟩ : ∃ r, (dims mm).1 = r := ⟨_, rfl⟩
  obtain ⟨c, hc⟩ : ∃ c, (dims mm).2 = c := ⟨_, rfl⟩
  rw [hr, hc] at hvf HMO HV
  obtain ⟨n, hn⟩ : ∃ n : Nat, (r * c) = (n : Int) := ⟨(r * c).toNat, by omega⟩
  have hnb : n ≤ 3564 := by omega
  obtain ⟨O, hrun, hcells⟩ := run_cells n (by omega)
  have HX := Lib.hid (show cleared m a = ⟨m, a, r, c, List.replicate n Cl.zero, 0⟩ by unfold cleared; rw [hmm, hr, hc, hn]; simp)
  have HN := Lib.hid hn
  have HC := Lib.hid hcells
  have HF := Lib.hid hf
  have HMM := Lib.hid hmm
  clear hmm hr hc hn hcells hvf hv hmb hf
  cases a
  · obtain rfl : mm = 2 := by have := HMM.out; simp at this; exact this.symm
    clear HMM
    go_enter Tryz.func19, Tryz.ntmps19
    go_wp2_with fail
    refine (HMO.out _).mono ?_
    rintro e w1 ⟨rfl, hb_w1⟩
    have hz_w1 := Up.size hb_w1
    try simp at hz_w1
    obtain ⟨bd_w1_0, be_w1_0⟩ := hb_w1.at_ (p) (by (try simp) <;> omega)
    have zb_w1_0 : p < w1.heap.size := by omega
    go_wp2_with fail
    refine (((cells_good _ _ _ HV.out).mono fun e w' h => (show e = .returned (.int .i64 (n : Int)) ∧ Up _ w' by rw [← HN.out]; exact h))).mono ?_
    rintro e w2 ⟨rfl, hb_w2⟩
    have hz_w2 := Up.size hb_w2
    try simp at hz_w2
    obtain ⟨bd_w2_0, be_w2_0⟩ := hb_w2.at_ (p) (by (try simp) <;> omega)
    have zb_w2_0 : p < w2.heap.size := by omega
    go_wp2_with fail
    have fw : FreeAt w2 p := fun o => (be_w2_0 o).trans ((World.frozen?_setCell ..).trans ((World.frozen?_setCell ..).trans ((be_w1_0 o).trans ((World.frozen?_setCell ..).trans (HF.out o)))))
    have j0 : w2.cell? ⟨p, 0, none⟩ = some (.int .i64 m) := (bd_w2_0 0).trans (by simp [go_sem, bd_w1_0, *])
    have j1 : w2.cell? ⟨p, 1, none⟩ = some (.bool false) := (bd_w2_0 1).trans (by simp [go_sem, bd_w1_0, *])
    have j2 : w2.cell? ⟨p, 2, none⟩ = some (.int .i64 r) := (bd_w2_0 2).trans (by simp [go_sem, bd_w1_0, *])
    have j3 : w2.cell? ⟨p, 3, none⟩ = some (.int .i64 c) := (bd_w2_0 3).trans (by simp [go_sem, bd_w1_0, *])
    have j4 : w2.cell? ⟨p, 4, none⟩ = some v4 := (bd_w2_0 4).trans (by simp [go_sem, bd_w1_0, *])
    have j5 : w2.cell? ⟨p, 5, none⟩ = some v5 := (bd_w2_0 5).trans (by simp [go_sem, bd_w1_0, *])
    have j6 : w2.cell? ⟨p, 6, none⟩ = some v6 := (bd_w2_0 6).trans (by simp [go_sem, bd_w1_0, *])
    have hend := Lib.hid (clear_end (n := n) (O := O) fw zb_w2_0 j0 j1 j2 j3 j4 j5 j6 (by simp [maxLen]; omega) HC.out)
    go_end0
    refine ⟨rfl, w2.heap.size, by omega, by rw [HX.out]; exact hend.out, by (repeat (first | with_reducible exact Keep.refl _ _ | with_reducible refine Keep.alloc ?_ _ | with_reducible refine Keep.drew ?_ | with_reducible refine Keep.drewN ?_ _ | (refine Keep.setCell ?_ (by first | exact Or.inl rfl | exact Or.inl (Or.inl rfl) | exact Or.inl (Or.inr rfl) | (right; (try simp) <;> omega)) _) | with_reducible assumption | with_reducible refine Keep.up ?_ (by assumption)))⟩
  · obtain rfl : m = mm := by have := HMM.out; simp at this; exact this
    clear HMM
    go_enter Tryz.func19, Tryz.ntmps19
    go_wp2_with fail
    refine (HMO.out _).mono ?_
    rintro e w1 ⟨rfl, hb_w1⟩
    have hz_w1 := Up.size hb_w1
    try simp at hz_w1
    obtain ⟨bd_w1_0, be_w1_0⟩ := hb_w1.at_ (p) (by (try simp) <;> omega)
    have zb_w1_0 : p < w1.heap.size := by omega
    go_wp2_with fail
    refine (((cells_good _ _ _ HV.out).mono fun e w' h => (show e = .returned (.int .i64 (n : Int)) ∧ Up _ w' by rw [← HN.out]; exact h))).mono ?_
    rintro e w2 ⟨rfl, hb_w2⟩
    have hz_w2 := Up.size hb_w2
    try simp at hz_w2
    obtain ⟨bd_w2_0, be_w2_0⟩ := hb_w2.at_ (p) (by (try simp) <;> omega)
    have zb_w2_0 : p < w2.heap.size := by omega
    go_wp2_with fail
    have fw : FreeAt w2 p := fun o => (be_w2_0 o).trans ((World.frozen?_setCell ..).trans ((World.frozen?_setCell ..).trans ((be_w1_0 o).trans ((World.frozen?_setCell ..).trans (HF.out o)))))
    have j0 : w2.cell? ⟨p, 0, none⟩ = some (.int .i64 m) := (bd_w2_0 0).trans (by simp [go_sem, bd_w1_0, *])
    have j1 : w2.cell? ⟨p, 1, none⟩ = some (.bool true) := (bd_w2_0 1).trans (by simp [go_sem, bd_w1_0, *])
    have j2 : w2.cell? ⟨p, 2, none⟩ = some (.int .i64 r) := (bd_w2_0 2).trans (by simp [go_sem, bd_w1_0, *])
    have j3 : w2.cell? ⟨p, 3, none⟩ = some (.int .i64 c) := (bd_w2_0 3).trans (by simp [go_sem, bd_w1_0, *])
    have j4 : w2.cell? ⟨p, 4, none⟩ = some v4 := (bd_w2_0 4).trans (by simp [go_sem, bd_w1_0, *])
    have j5 : w2.cell? ⟨p, 5, none⟩ = some v5 := (bd_w2_0 5).trans (by simp [go_sem, bd_w1_0, *])
    have j6 : w2.cell? ⟨p, 6, none⟩ = some v6 := (bd_w2_0 6).trans (by simp [go_sem, bd_w1_0, *])
    have hend := Lib.hid (clear_end (n := n) (O := O) fw zb_w2_0 j0 j1 j2 j3 j4 j5 j6 (by simp [maxLen]; omega) HC.out)
    go_end0
    refine ⟨rfl, w2.heap.size, by omega, by rw [HX.out]; exact hend.out, by (repeat (first | with_reducible exact Keep.refl _ _ | with_reducible refine Keep.alloc ?_ _ | with_reducible refine Keep.drew ?_ | with_reducible refine Keep.drewN ?_ _ | (refine Keep.setCell ?_ (by first | exact Or.inl rfl | exact Or.inl (Or.inl rfl) | exact Or.inl (Or.inr rfl) | (right; (try simp) <;> omega)) _) | with_reducible assumption | with_reducible refine Keep.up ?_ (by assumption)))⟩
theorem sclear_is {p g : Nat} {X : Spc} {w : World} (a : Bool) (h : SAt w p g X) (ok : X.Ok) :
    Calls Tryz.prog 19 #[.pointer (some ⟨p, 0, none⟩), .bool a] w fun e w' => e = .returned (.tuple #[]) ∧ ∃ g', w.heap.size ≤ g' ∧ SAt w' p g' (X.clear a) ∧ Keep (fun k => k = p) w w' := by
  obtain ⟨_, zp, hf, k0, k1, k2, k3, ⟨cap, _, _, k4⟩, k5, k6, _⟩ := h
  exact sclear_raw a hf zp k0 k1 k2 k3 k4 k5 k6 ok.m2 ok.m5
set_option maxHeartbeats 1600000 in
theorem snew_is {m : Int} {w : World} (h2 : 2 ≤ m) (h5 : m ≤ 5) :
    Calls Tryz.prog 18 #[.int .i64 m] w fun e w' => ∃ p g, e = .returned (.tuple #[.pointer (some ⟨p, 0, none⟩), .int .i64 0]) ∧ w.heap.size ≤ p ∧ w.heap.size ≤ g ∧ SAt w' p g (newS m) ∧ Up w w' := by
  have HM := Lib.hid (fun w => model_good m w ⟨h2, h5⟩)
  generalize (dims m).1 = r at HM
  generalize (dims m).2 = c at HM
  go_enter Tryz.func18, Tryz.ntmps18
  go_wp2_with fail
  refine (HM.out _).mono ?_
  rintro e w1 ⟨rfl, hb_w1⟩
  have hu_w1 : Up w w1 := by (repeat (first | with_reducible exact Up.refl _ | with_reducible refine Up.alloc ?_ _ | with_reducible refine Up.drew ?_ | with_reducible refine Up.drewN ?_ _ | with_reducible refine Up.setCell ?_ (by (try simp) <;> omega) _ | with_reducible assumption | with_reducible refine Up.trans ?_ (by assumption)))
  have hz_w1 := Up.size hb_w1
  try simp at hz_w1
  go_wp2_with fail
  refine (sclear_raw (p := w1.heap.size + 1) (m := m) (v1 := .bool false) (v2 := .int .i64 0) (v3 := .int .i64 0) (v4 := .slice none 0 0) (v5 := .int .i64 0) (v6 := .int .i64 0) false (fun o => by simp [go_sem]) (by simp) (by simp [go_sem]) (by simp [go_sem]) (by simp [go_sem]) (by simp [go_sem]) (by simp [go_sem]) (by simp [go_sem]) (by simp [go_sem]) h2 h5).mono ?_
  rintro e w2 ⟨rfl, g, hg, hs, hk⟩
  simp at hg
  have hk2 : Up w1 w2 := Up.keep (((Up.refl w1).alloc _).alloc _) hk (fun i hi => by omega)
  have HS := Lib.hid hs
  have HK := Lib.hid (hb_w1.trans hk2)
  clear hs hk hk2
  go_wp2_with fail
  go_ret2
  exact ⟨w1.heap.size + 1, g, rfl, by omega, by omega, HS.out, HK.out⟩
end Go.Proofs.YtamfjgioajmnpaaGreatDoor
namespace Go.Proofs.YtamfjgioajmnpaaGreatDoor
open Go.RowKit
set_option linter.unusedVariables false
set_option linter.unusedSimpArgs false

end Go.Proofs.YtamfjgioajmnpaaGreatDoor
namespace Go.Proofs.YtamfjgioajmnpaaGreatDoor
open Go.RowKit
set_option linter.unusedVariables false
set_option linter.unusedSimpArgs false

theorem Spc.Ok.at_wf {X : Spc} (ok : X.Ok) (n : Int) : (X.at_ n).Wf := by
  have hw := (ok.wrap n).2
  exact ok.wf _ (by unfold Spc.at_; rw [List.getD, List.getElem?_eq_getElem hw]; exact List.getElem_mem _)
end Go.Proofs.YtamfjgioajmnpaaGreatDoor
