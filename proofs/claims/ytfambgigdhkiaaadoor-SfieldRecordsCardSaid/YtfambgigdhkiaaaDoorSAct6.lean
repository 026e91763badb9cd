/-
  What sfield's Act makes of a field: Read Partition, the list and the read. Condition: write's table lies as the row lists it.
-/
import Derived.Test.YtfambgigdhkiaaaDoorSAct5
namespace Go.Proofs.YtfambgigdhkiaaaDoor
open Go.RowKit
set_option linter.unusedVariables false
set_option linter.unusedSimpArgs false

set_option maxHeartbeats 3200000 in
theorem rd_read {B : Nat} {b off n c : Nat} {l : List Int} {w : World} {x y cv : Int} {okv : Bool} (HT : Hid (TabW w)) (h : Sl B w (some ⟨b, off, none⟩) n c l) (hcm : Hid (∀ w, TabW w → Calls Tryd.prog 44 #[.int .u8 y] w fun e w' => e = .returned (.tuple #[.int .i64 cv, .bool okv]) ∧ Up w w')) (hb : b < w.heap.size)
    (hc : w.cell? ⟨b, off, none⟩ = some (.int .u8 x)) (hc1 : w.cell? ⟨b, off + 1, none⟩ = some (.int .u8 y)) (hn : n = 2) (h2 : (y == 2) = false) (h3 : (y == 3) = false) (h4 : okv = true) (h5 : (decide (5 ≤ cv) && decide (cv ≤ 7)) = true) :
    Calls Tryd.prog 33 #[.slice (some ⟨b, off, none⟩) n c] w (ActRet w (if x = 0 then (⟨3, cv, 0, false, 0, [], []⟩, 0) else (zAct, 1))) := by

  clear h
  have hrd := Lib.hid (fun w => reads_is cv w)
  rw [h5] at hrd
  clear h5
  subst hn h4
  by_cases g : x = 0
  · subst g
    rw [if_pos rfl]
    go_enter Tryd.func33, Tryd.ntmps33
    go_wp2_with fail
    refine (hcm.out _ (HT.out.up (by (repeat (first | with_reducible exact Up.refl _ | with_reducible refine Up.alloc ?_ _ | with_reducible refine Up.drew ?_ | with_reducible refine Up.drewN ?_ _ | with_reducible refine Up.setCell ?_ (by (try simp) <;> omega) _ | with_reducible assumption | with_reducible refine Up.trans ?_ (by assumption)))))).mono ?_
    rintro e w1 ⟨rfl, hb_w1⟩
    have hu_w1 : Up w w1 := by (repeat (first | with_reducible exact Up.refl _ | with_reducible refine Up.alloc ?_ _ | with_reducible refine Up.drew ?_ | with_reducible refine Up.drewN ?_ _ | with_reducible refine Up.setCell ?_ (by (try simp) <;> omega) _ | with_reducible assumption | with_reducible refine Up.trans ?_ (by assumption)))
    have hz_w1 := Up.size hb_w1
    try simp at hz_w1
    obtain ⟨bd_w1_0, be_w1_0⟩ := hb_w1.at_ (w.heap.size) (by (try simp) <;> omega)
    obtain ⟨bd_w1_1, be_w1_1⟩ := hb_w1.at_ (w.heap.size + 1) (by (try simp) <;> omega)
    obtain ⟨bd_w1_2, be_w1_2⟩ := hb_w1.at_ (b) (by (try simp) <;> omega)
    have zb_w1_0 : w.heap.size < w1.heap.size := by omega
    have zb_w1_1 : w.heap.size + 1 < w1.heap.size := by omega
    have zb_w1_2 : b < w1.heap.size := by omega
    go_wp2_with fail
    go_wp2_with (go_at_call 45; refine (hrd.out _).mono ?_; rintro e w' ⟨rfl, rfl⟩)
    exact bodyPost_ret (v := .tuple #[actV ⟨3, cv, 0, false, 0, [], []⟩ none 0 none 0, .int .i64 0]) (by simp [results, Tryd.results33, go_sem, actV, zAct, bd_w1_0, bd_w1_1]) rfl (ActRet.plain rfl (by (repeat (first | with_reducible exact Up.refl _ | with_reducible refine Up.alloc ?_ _ | with_reducible refine Up.drew ?_ | with_reducible refine Up.drewN ?_ _ | with_reducible refine Up.setCell ?_ (by (try simp) <;> omega) _ | with_reducible assumption | with_reducible refine Up.trans ?_ (by assumption)))))
  · rw [if_neg g]
    have e0 : (x != 0) = true := by simpa using g
    clear g
    go_enter Tryd.func33, Tryd.ntmps33
    go_wp2_with fail
    refine (hcm.out _ (HT.out.up (by (repeat (first | with_reducible exact Up.refl _ | with_reducible refine Up.alloc ?_ _ | with_reducible refine Up.drew ?_ | with_reducible refine Up.drewN ?_ _ | with_reducible refine Up.setCell ?_ (by (try simp) <;> omega) _ | with_reducible assumption | with_reducible refine Up.trans ?_ (by assumption)))))).mono ?_
    rintro e w1 ⟨rfl, hb_w1⟩
    have hu_w1 : Up w w1 := by (repeat (first | with_reducible exact Up.refl _ | with_reducible refine Up.alloc ?_ _ | with_reducible refine Up.drew ?_ | with_reducible refine Up.drewN ?_ _ | with_reducible refine Up.setCell ?_ (by (try simp) <;> omega) _ | with_reducible assumption | with_reducible refine Up.trans ?_ (by assumption)))
    have hz_w1 := Up.size hb_w1
    try simp at hz_w1
    obtain ⟨bd_w1_0, be_w1_0⟩ := hb_w1.at_ (w.heap.size) (by (try simp) <;> omega)
    obtain ⟨bd_w1_1, be_w1_1⟩ := hb_w1.at_ (w.heap.size + 1) (by (try simp) <;> omega)
    obtain ⟨bd_w1_2, be_w1_2⟩ := hb_w1.at_ (b) (by (try simp) <;> omega)
    have zb_w1_0 : w.heap.size < w1.heap.size := by omega
    have zb_w1_1 : w.heap.size + 1 < w1.heap.size := by omega
    have zb_w1_2 : b < w1.heap.size := by omega
    go_wp2_with fail
    go_wp2_with (go_at_call 45; refine (hrd.out _).mono ?_; rintro e w' ⟨rfl, rfl⟩)
    exact bodyPost_ret (v := .tuple #[actV zAct none 0 none 0, .int .i64 1]) (by simp [results, Tryd.results33, go_sem, actV, zAct, bd_w1_0, bd_w1_1]) rfl (ActRet.zero rfl (by (repeat (first | with_reducible exact Up.refl _ | with_reducible refine Up.alloc ?_ _ | with_reducible refine Up.drew ?_ | with_reducible refine Up.drewN ?_ _ | with_reducible refine Up.setCell ?_ (by (try simp) <;> omega) _ | with_reducible assumption | with_reducible refine Up.trans ?_ (by assumption)))))

set_option maxHeartbeats 3200000 in
theorem rd_list {B : Nat} {b off n c : Nat} {l : List Int} {w : World} {x y cv : Int} {okv : Bool} (HT : Hid (TabW w)) (h : Sl B w (some ⟨b, off, none⟩) n c l) (hcm : Hid (∀ w, TabW w → Calls Tryd.prog 44 #[.int .u8 y] w fun e w' => e = .returned (.tuple #[.int .i64 cv, .bool okv]) ∧ Up w w')) (hb : b < w.heap.size)
    (hc : w.cell? ⟨b, off, none⟩ = some (.int .u8 x)) (hc1 : w.cell? ⟨b, off + 1, none⟩ = some (.int .u8 y)) (hn : 3 ≤ n) (hy : y = 3) {z : Int} (hc2 : w.cell? ⟨b, off + 2, none⟩ = some (.int .u8 z)) (hz : z = 0 ∨ z = 64 ∨ z = 128) :
    Calls Tryd.prog 33 #[.slice (some ⟨b, off, none⟩) n c] w (ActRet w (if x = 255 then (⟨2, 0, 0, false, z, l.drop 3, []⟩, 0) else (zAct, 1))) := by

  obtain ⟨A3, hA3, hcut⟩ : ∃ A3, (if c = 3 then (some ⟨b, off, none⟩ : Option Addr) else some ⟨b, off + 3, none⟩) = A3 ∧ Sl B w A3 (n - 3) (c - 3) (l.drop 3) := by
    have := h.cut (k := 3) hn
    exact ⟨_, rfl, by simpa [Addr.add] using this⟩
  have hcap := h.cap
  have hl := h.len
  clear h
  subst hy
  have HC := Lib.hid hcut
  have HL := Lib.hid (show (l.drop 3).length = n - 3 by rw [List.length_drop, hl])
  have HL2 := Lib.hid hl
  clear hcut hl
  have h1 : (1 : Int) < n := by omega
  have h3 : (3 : Int) ≤ n := by omega
  have h2 : (2 : Int) < n := by omega
  have hz' : (z == 0) = true ∨ ((z == 0) = false ∧ (z == 64) = true) ∨ ((z == 0) = false ∧ (z == 64) = false ∧ (z == 128) = true) := by
    rcases hz with rfl | rfl | rfl
    · exact .inl rfl
    · exact .inr (.inl ⟨rfl, rfl⟩)
    · exact .inr (.inr ⟨rfl, rfl, rfl⟩)
  clear hz
  have hc3 : (c = 3 ∧ A3 = some ⟨b, off, none⟩) ∨ (¬ c = 3 ∧ A3 = some ⟨b, off + 3, none⟩) := by
    by_cases h : c = 3
    · exact .inl ⟨h, by rw [← hA3, if_pos h]⟩
    · exact .inr ⟨h, by rw [← hA3, if_neg h]⟩
  clear hA3
  generalize hR : (if x = 255 then ((⟨2, 0, 0, false, z, l.drop 3, []⟩, 0) : PAct × Int) else (zAct, 1)) = R
  have HR := Lib.hid hR
  clear hR
  rcases hc3 with ⟨hc3, rfl⟩ | ⟨hc3, rfl⟩
  (subst hc3; obtain rfl : n = 3 := (by omega); simp only [Nat.sub_self] at HC HL)
  all_goals rcases hz' with z1 | ⟨z1, z2⟩ | ⟨z1, z2, z3⟩
  all_goals
    go_enter Tryd.func33, Tryd.ntmps33
    go_wp2_with fail
    refine (hcm.out _ (HT.out.up (by (repeat (first | with_reducible exact Up.refl _ | with_reducible refine Up.alloc ?_ _ | with_reducible refine Up.drew ?_ | with_reducible refine Up.drewN ?_ _ | with_reducible refine Up.setCell ?_ (by (try simp) <;> omega) _ | with_reducible assumption | with_reducible refine Up.trans ?_ (by assumption)))))).mono ?_
    rintro e w1 ⟨rfl, hb_w1⟩
    have hu_w1 : Up w w1 := by (repeat (first | with_reducible exact Up.refl _ | with_reducible refine Up.alloc ?_ _ | with_reducible refine Up.drew ?_ | with_reducible refine Up.drewN ?_ _ | with_reducible refine Up.setCell ?_ (by (try simp) <;> omega) _ | with_reducible assumption | with_reducible refine Up.trans ?_ (by assumption)))
    have hz_w1 := Up.size hb_w1
    try simp at hz_w1
    obtain ⟨bd_w1_0, be_w1_0⟩ := hb_w1.at_ (w.heap.size) (by (try simp) <;> omega)
    obtain ⟨bd_w1_1, be_w1_1⟩ := hb_w1.at_ (w.heap.size + 1) (by (try simp) <;> omega)
    obtain ⟨bd_w1_2, be_w1_2⟩ := hb_w1.at_ (b) (by (try simp) <;> omega)
    have zb_w1_0 : w.heap.size < w1.heap.size := by omega
    have zb_w1_1 : w.heap.size + 1 < w1.heap.size := by omega
    have zb_w1_2 : b < w1.heap.size := by omega
    go_wp2_with fail
    go_region_with (go_at_call 43; refine (clone_sl (HC.out.up (by (repeat (first | with_reducible exact Up.refl _ | with_reducible refine Up.alloc ?_ _ | with_reducible refine Up.drew ?_ | with_reducible refine Up.drewN ?_ _ | with_reducible refine Up.setCell ?_ (by (try simp) <;> omega) _ | with_reducible assumption | with_reducible refine Up.trans ?_ (by assumption)))))).mono ?_; rintro e w2 ⟨A2, c2, rfl, hs2, hu2⟩; obtain ⟨ca, da⟩ := hu2.at_ w.heap.size (by (try simp) <;> omega); obtain ⟨cb, db⟩ := hu2.at_ (w.heap.size + 1) (by (try simp) <;> omega); obtain ⟨cc, dc⟩ := hu2.at_ b (by (try simp) <;> omega); have hz2 := hu2.size; (try simp at hz2); have s0 : w.heap.size < w2.heap.size := (by omega); have s1 : w.heap.size + 1 < w2.heap.size := (by omega); have s2 : b < w2.heap.size := (by omega))
    all_goals
      by_cases g : x = 255
      · subst g
        go_wp2
        have hRR : R = (⟨2, 0, 0, false, z, l.drop 3, []⟩, 0) := by rw [← HR.out]; simp
        rw [hRR]
        clear hRR
        refine bodyPost_ret (v := .tuple #[actV ⟨2, 0, 0, false, z, l.drop 3, []⟩ A2 c2 none 0, .int .i64 0]) (by simp [results, Tryd.results33, go_sem, actV, zAct, HL2.out, bd_w1_0, bd_w1_1, ca, cb]) rfl ?_
        refine ⟨A2, c2, none, 0, rfl, Sl.low (B := w1.heap.size) ?_ (by omega), Sl.none_, by (repeat (first | with_reducible exact Up.refl _ | with_reducible refine Up.alloc ?_ _ | with_reducible refine Up.drew ?_ | with_reducible refine Up.drewN ?_ _ | with_reducible refine Up.setCell ?_ (by (try simp) <;> omega) _ | with_reducible assumption | with_reducible refine Up.trans ?_ (by assumption)))⟩
        repeat with_reducible refine Sl.set1 ?_ (by omega) _ _
        exact hs2.norm
      · have e0 : (x != 255) = true := by simpa using g
        have HG := Lib.hid g
        clear g
        go_wp2
        have hRR : R = (zAct, 1) := by rw [← HR.out, if_neg HG.out]
        rw [hRR]
        clear hRR
        exact bodyPost_ret (v := .tuple #[actV zAct none 0 none 0, .int .i64 1]) (by simp [results, Tryd.results33, go_sem, actV, zAct, bd_w1_0, bd_w1_1, ca, cb]) rfl (ActRet.zero rfl (by (repeat (first | with_reducible exact Up.refl _ | with_reducible refine Up.alloc ?_ _ | with_reducible refine Up.drew ?_ | with_reducible refine Up.drewN ?_ _ | with_reducible refine Up.setCell ?_ (by (try simp) <;> omega) _ | with_reducible assumption | with_reducible refine Up.trans ?_ (by assumption)))))

end Go.Proofs.YtfambgigdhkiaaaDoor
