/-
What space's writers do. No condition.
-/
import Derived.Test.YtamfjgioajmnpaaGreatDoorJa5
namespace Go.Proofs.YtamfjgioajmnpaaGreatDoor
open Go.RowKit
set_option linter.unusedVariables false
set_option linter.unusedSimpArgs false

/-- the two blocks of a space -/
def two (p g : Nat) (k : Nat) : Prop := k = p ∨ k = g
theorem SAt.cur {w : World} {p g : Nat} {X : Spc} (h : SAt w p g X) (x : Int) : SAt (w.setCell ⟨p, 5, none⟩ (.int .i64 x)) p g { X with cur := x } := by
  have o : ∀ n : Nat, n ≠ 5 → (w.setCell ⟨p, 5, none⟩ (.int .i64 x)).cell? ⟨p, n, none⟩ = w.cell? ⟨p, n, none⟩ := fun n hn => World.cell?_setCell_other _ _ _ _ (ad_ne2 (Ne.symm hn))
  obtain ⟨cap, c1, c2, c3⟩ := h.h4
  exact ⟨h.ne, by simp [World.setCell]; exact h.lt, h.free.set _ _, (o 0 (by omega)).trans h.h0, (o 1 (by omega)).trans h.h1, (o 2 (by omega)).trans h.h2, (o 3 (by omega)).trans h.h3, ⟨cap, c1, c2, (o 4 (by omega)).trans c3⟩,
    World.cell?_setCell_same (h := h.h5) .., (o 6 (by omega)).trans h.h6, h.cells.other _ _ h.ne⟩
theorem SAt.setAt {w : World} {p g : Nat} {X : Spc} (h : SAt w p g X) {k : Nat} {d : Cl} (hk : X.L[k]? = some d) (c : Cl) {n : Int} (hn : n = (attrsN X.L : Int) + ((cnt c : Int) - (cnt d : Int))) :
    SAt (store6 (w.setCell ⟨p, 6, none⟩ (.int .i64 n)) g (k * 6) c) p g { X with L := X.L.set k c } := by
  have hlt : k < X.L.length := (List.getElem?_eq_some_iff.1 hk).1
  have hq : ∀ n', (store6 (w.setCell ⟨p, 6, none⟩ (.int .i64 n)) g (k * 6) c).cell? ⟨p, n', none⟩ = (w.setCell ⟨p, 6, none⟩ (.int .i64 n)).cell? ⟨p, n', none⟩ := fun n' =>
    ((store6_keep (w.setCell ⟨p, 6, none⟩ (.int .i64 n)) g (k * 6) c).at_ p (by simp [World.setCell]; exact h.lt) h.ne).1 n'
  have o : ∀ n' : Nat, n' ≠ 6 → (store6 (w.setCell ⟨p, 6, none⟩ (.int .i64 n)) g (k * 6) c).cell? ⟨p, n', none⟩ = w.cell? ⟨p, n', none⟩ := fun n' hn' => (hq n').trans (World.cell?_setCell_other _ _ _ _ (ad_ne2 (Ne.symm hn')))
  obtain ⟨cap, c1, c2, c3⟩ := h.h4
  have hc := (h.cells.other 6 (.int .i64 n) h.ne).store hlt c
  exact ⟨h.ne, by rw [store6_size]; simp [World.setCell]; exact h.lt, store6_free (h.free.set _ _), (o 0 (by omega)).trans h.h0, (o 1 (by omega)).trans h.h1, (o 2 (by omega)).trans h.h2, (o 3 (by omega)).trans h.h3, ⟨cap, by simp; exact c1, c2, by simp; exact (o 4 (by omega)).trans c3⟩,
    (o 5 (by omega)).trans h.h5, by rw [attrsN_set hk, ← hn]; exact (hq 6).trans (World.cell?_setCell_same (h := h.h6) ..), hc⟩

theorem setCell_congr {w w' : World} {g : Nat} (h : w'.heap[g]? = w.heap[g]?) (o : Nat) (v : Value) : (w'.setCell ⟨g, o, none⟩ v).heap[g]? = (w.setCell ⟨g, o, none⟩ v).heap[g]? := by
  simp [World.setCell, Array.getElem?_modify, h]
theorem store6_congr {w w' : World} {g : Nat} (h : w'.heap[g]? = w.heap[g]?) (o : Nat) (c : Cl) : (store6 w' g o c).heap[g]? = (store6 w g o c).heap[g]? :=
  setCell_congr (setCell_congr (setCell_congr (setCell_congr (setCell_congr (setCell_congr h _ _) _ _) _ _) _ _) _ _) _ _
theorem SAt.setAt2 {w w3 : World} {p g : Nat} {X : Spc} (h : SAt w p g X) {k : Nat} {d : Cl} (hk : X.L[k]? = some d) (c : Cl) {n : Int} (hn : n = (attrsN X.L : Int) + ((cnt c : Int) - (cnt d : Int)))
    (hu : Up (w.setCell ⟨p, 6, none⟩ (.int .i64 n)) w3) : SAt (store6 w3 g (k * 6) c) p g { X with L := X.L.set k c } ∧ Keep (two p g) w (store6 w3 g (k * 6) c) := by
  have hz : (w.setCell ⟨p, 6, none⟩ (.int .i64 n)).heap.size = w.heap.size := by simp [World.setCell]
  have hp := hu.block p (by rw [hz]; exact h.lt)
  have hg := hu.block g (by rw [hz]; exact h.cells.2.1)
  refine ⟨(h.setAt hk c hn).keep ?_ (store6_congr hg _ _), ?_⟩
  · rw [(store6_keep w3 g (k * 6) c).block p (by have := hu.size; have := h.lt; omega) h.ne, (store6_keep _ g (k * 6) c).block p (by rw [hz]; exact h.lt) h.ne, hp]
  · exact ((Keep.setCell (Keep.refl (two p g) w) (p := ⟨p, 6, none⟩) (.inl (.inl rfl)) _).up hu).trans ((store6_keep w3 g (k * 6) c).mono fun k hk => .inr hk)
set_option maxHeartbeats 800000 in
theorem splace_is {p g : Nat} {X : Spc} {w : World} (n : Int) (h : SAt w p g X) (ok : X.Ok) :
    Calls Tryz.prog 243 #[.pointer (some ⟨p, 0, none⟩), .int .i64 n] w fun e w' => e = .returned (.tuple #[]) ∧ SAt w' p g (X.place n) ∧ Keep (two p g) w w' := by
  have H := Lib.hid h
  obtain ⟨hw1, hw2⟩ := ok.wrap n
  have hv := Lib.hid ok.valid
  have k2 := h.h2
  have k3 := h.h3
  have k5 := h.h5
  have f5 := h.free 5
  have zp := h.lt
  have HW1 := Lib.hid hw1
  clear hw1 h ok hw2
  obtain ⟨k, hk⟩ : ∃ k, X.wrap n = k := ⟨_, rfl⟩
  have HK := Lib.hid hk
  rw [hk] at HW1
  clear hk
  go_enter Tryz.func243, Tryz.ntmps243
  go_wp2_with fail
  refine (((wrap_good _ _ n _ hv.out).mono fun e w' h => (show e = .returned (.int .i64 (k : Int)) ∧ Up w w' by rw [← HW1.out]; exact h))).mono ?_
  rintro e w1 ⟨rfl, hb_w1⟩
  have hu_w1 : Up w w1 := by (repeat (first | with_reducible exact Up.refl _ | with_reducible refine Up.alloc ?_ _ | with_reducible refine Up.drew ?_ | with_reducible refine Up.drewN ?_ _ | with_reducible refine Up.setCell ?_ (by (try simp) <;> omega) _ | with_reducible assumption | with_reducible refine Up.trans ?_ (by assumption)))
  have hz_w1 := Up.size hb_w1
  try simp at hz_w1
  obtain ⟨bd_w1_0, be_w1_0⟩ := hb_w1.at_ (p) (by (try simp) <;> omega)
  have zb_w1_0 : p < w1.heap.size := by omega
  go_wp2_with fail
  go_end0
  have hh := (H.out.up hb_w1).cur (k : Int)
  refine ⟨rfl, by unfold Spc.place; rw [HK.out]; exact hh, Keep.setCell (Keep.of_up hb_w1) (.inl (.inl rfl)) _⟩
theorem count_is (c : Cl) (w : World) :
    Calls Tryz.prog 290 #[c.val] w fun e w' => e = .returned (.int .i64 (cnt c : Int)) ∧ Up w w' := by
  obtain ⟨ch, a, fa, hi, co, se⟩ := c
  unfold cnt Cl.val
  cases a
  all_goals
    go_enter Tryz.func290, Tryz.ntmps290
    go_wp2
    go_ret
    exact ⟨rfl, by (repeat (first | with_reducible exact Up.refl _ | with_reducible refine Up.alloc ?_ _ | with_reducible refine Up.drew ?_ | with_reducible refine Up.drewN ?_ _ | with_reducible refine Up.setCell ?_ (by (try simp) <;> omega) _ | with_reducible assumption | with_reducible refine Up.trans ?_ (by assumption)))⟩
theorem count_f (ch fa hi co se : Int) (w : World) : Calls Tryz.prog 290 #[.agg #[.int .u8 ch, .bool false, .int .u8 fa, .int .u8 hi, .int .u8 co, .int .u8 se]] w fun e w' => e = .returned (.int .i64 0) ∧ Up w w' := count_is ⟨ch, false, fa, hi, co, se⟩ w
theorem count_t (ch fa hi co se : Int) (w : World) : Calls Tryz.prog 290 #[.agg #[.int .u8 ch, .bool true, .int .u8 fa, .int .u8 hi, .int .u8 co, .int .u8 se]] w fun e w' => e = .returned (.int .i64 1) ∧ Up w w' := count_is ⟨ch, true, fa, hi, co, se⟩ w
set_option maxHeartbeats 1600000 in
theorem sset_is {p g : Nat} {X : Spc} {w : World} (n : Int) (c : Cl) (hcw : c.Wf) (h : SAt w p g X) (ok : X.Ok) :
    Calls Tryz.prog 242 #[.pointer (some ⟨p, 0, none⟩), .int .i64 n, c.val] w fun e w' => e = .returned (.tuple #[]) ∧ SAt w' p g (X.set n c) ∧ Keep (two p g) w w' := by
  have H := Lib.hid h
  obtain ⟨k, hk⟩ : ∃ k, X.wrap n = k := ⟨_, rfl⟩
  have hw := ok.wrap n
  rw [hk] at hw
  obtain ⟨hw1, hw2⟩ := hw
  have hv := Lib.hid ok.valid
  obtain ⟨d, hd⟩ : ∃ d, X.L[k]? = some d := ⟨_, List.getElem?_eq_getElem hw2⟩
  have HP := Lib.hid (show X.set n c = { X with L := X.L.set k c.fit } by unfold Spc.set; rw [hk])
  obtain ⟨c0, c1, c2, c3, c4, c5⟩ := h.cells.2.2 k d hd
  have f0 := h.cells.1 (k * 6)
  have f1 := h.cells.1 (k * 6 + 1)
  have f2 := h.cells.1 (k * 6 + 2)
  have f3 := h.cells.1 (k * 6 + 3)
  have f4 := h.cells.1 (k * 6 + 4)
  have f5 := h.cells.1 (k * 6 + 5)
  have fp := h.free 6
  obtain ⟨cap, q1, q2, k4⟩ := h.h4
  have k2 := h.h2
  have k3 := h.h3
  have k6 := h.h6
  have zp := h.lt
  have zg := h.cells.2.1
  have hpg := h.ne
  have ha := attrsN_le X.L
  have hsm := ok.small
  have HW1 := Lib.hid hw1
  have HD := Lib.hid hd
  have H61 := Lib.hid (and61 c.fa hcw.fa.1 hcw.fa.2)
  generalize X.L.length = m at *
  obtain ⟨an, han⟩ : ∃ an, attrsN X.L = an := ⟨_, rfl⟩
  have HAN := Lib.hid han
  rw [han] at k6 ha
  clear hd hk hw1 h ok han hcw
  have hm : (k : Int) < (m : Int) := by omega
  have hcp : (cap : Int) ≤ 9223372036854775807 := by simp [maxLen] at q2; omega
  obtain ⟨ch, a, fa, hi, co, se⟩ := c
  obtain ⟨dch, da, dfa, dhi, dco, dse⟩ := d
  simp only at c0 c1 c2 c3 c4 c5 H61
  cases a <;> cases da
  all_goals
    go_enter Tryz.func242, Tryz.ntmps242
    simp only [Cl.val]
    go_wp2_with fail
    (try rw [H61.out])
    refine (((wrap_good _ _ n _ hv.out).mono fun e w' h => (show e = .returned (.int .i64 (k : Int)) ∧ Up _ w' by rw [← HW1.out]; exact h))).mono ?_
    rintro e w1 ⟨rfl, hb_w1⟩
    have hu_w1 : Up w w1 := by (repeat (first | with_reducible exact Up.refl _ | with_reducible refine Up.alloc ?_ _ | with_reducible refine Up.drew ?_ | with_reducible refine Up.drewN ?_ _ | with_reducible refine Up.setCell ?_ (by (try simp) <;> omega) _ | with_reducible assumption | with_reducible refine Up.trans ?_ (by assumption)))
    have hz_w1 := Up.size hb_w1
    try simp at hz_w1
    obtain ⟨bd_w1_0, be_w1_0⟩ := hb_w1.at_ (p) (by (try simp) <;> omega)
    obtain ⟨bd_w1_1, be_w1_1⟩ := hb_w1.at_ (g) (by (try simp) <;> omega)
    obtain ⟨bd_w1_2, be_w1_2⟩ := hb_w1.at_ (w.heap.size) (by (try simp) <;> omega)
    have zb_w1_0 : p < w1.heap.size := by omega
    have zb_w1_1 : g < w1.heap.size := by omega
    have zb_w1_2 : w.heap.size < w1.heap.size := by omega
    go_wp2_with fail
    refine wp_region_mixT 18 (NS := []) [] rfl (by kernel_rfl) (by kernel_rfl) (by simp) (by simp) ?_
    simp only [List.take_succ_cons, List.take_zero, List.drop_succ_cons, List.drop_zero]
    repeat (first
      | (refine mix_skip rfl rfl ?_; simp only [Act.put, List.setIfInBounds_toArray, List.set_cons_succ, List.set_cons_zero])
      | (refine mix_q rfl rfl rfl (by kernel_rfl) rfl rfl rfl ?_
         apply Exists.intro
         refine ⟨fun Wm => ?_, ?_⟩
         · simp only [fin]
           skip
           intro K hK
           go_wp2_with ((first | (go_at_call 290; (with_reducible refine (count_f _ _ _ _ _ _).mono ?_); rintro e w' ⟨rfl, hux⟩) | (go_at_call 290; (with_reducible refine (count_t _ _ _ _ _ _).mono ?_); rintro e w' ⟨rfl, hux⟩)))
           refine hK _ _ ?_ ?_ ?_
           · (repeat (first | with_reducible exact Up.refl _ | with_reducible refine Up.alloc ?_ _ | with_reducible refine Up.drew ?_ | with_reducible refine Up.drewN ?_ _ | with_reducible refine Up.setCell ?_ (by (try simp) <;> omega) _ | with_reducible assumption | with_reducible refine Up.trans ?_ (by assumption)))
           · rfl
           · exact tmps_at rfl
         simp only [Act.put, List.setIfInBounds_toArray, List.set_cons_succ, List.set_cons_zero]))
    refine mix_nil ?_
    intro w2 hb_w2
    simp only [fin]
    have hu_w2 : Up w1 w2 := by (repeat (first | with_reducible exact Up.refl _ | with_reducible refine Up.alloc ?_ _ | with_reducible refine Up.drew ?_ | with_reducible refine Up.drewN ?_ _ | with_reducible refine Up.setCell ?_ (by (try simp) <;> omega) _ | with_reducible assumption | with_reducible refine Up.trans ?_ (by assumption)))
    have hz_w2 := Up.size hb_w2
    try simp at hz_w2
    obtain ⟨bc_w2_0, bf_w2_0⟩ := hu_w2.at_ (p) (by omega)
    obtain ⟨bc_w2_1, bf_w2_1⟩ := hu_w2.at_ (g) (by omega)
    obtain ⟨bc_w2_2, bf_w2_2⟩ := hu_w2.at_ (w.heap.size) (by omega)
    have zb_w2_0 : p < w2.heap.size := by omega
    have zb_w2_1 : g < w2.heap.size := by omega
    have zb_w2_2 : w.heap.size < w2.heap.size := by omega
    go_wp2_with fail
  · obtain ⟨wq, hq⟩ : ∃ wq, wq = w2.setCell ⟨p, 6, none⟩ (.int .i64 ((an : Int))) := ⟨_, rfl⟩
    rw [← hq]
    have hqo : ∀ b o, b ≠ p ∨ o ≠ 6 → wq.cell? ⟨b, o, none⟩ = w2.cell? ⟨b, o, none⟩ := fun b o hbo => by
      rw [hq]; exact World.cell?_setCell_other _ _ _ _ (fun e => by injection e with e1 e2; omega)
    have hqf : ∀ b o, wq.frozen? ⟨b, o, none⟩ = w2.frozen? ⟨b, o, none⟩ := fun b o => by rw [hq]; exact World.frozen?_setCell ..
    have hqz : wq.heap.size = w2.heap.size := by rw [hq]; simp [World.setCell]
    have gG : ∀ o, wq.cell? ⟨g, o, none⟩ = w.cell? ⟨g, o, none⟩ := fun o => (hqo g o (by omega)).trans ((bc_w2_1 o).trans ((bd_w1_1 o).trans ((((Up.refl w).alloc _).at_ g zg).1 o)))
    have gF : ∀ o, wq.frozen? ⟨g, o, none⟩ = w.frozen? ⟨g, o, none⟩ := fun o => (hqf g o).trans ((bf_w2_1 o).trans ((be_w1_1 o).trans ((((Up.refl w).alloc _).at_ g zg).2 o)))
    have e4 := (hqo p 4 (by omega)).trans ((bc_w2_0 4).trans ((bd_w1_0 4).trans (((((Up.refl w).alloc _).at_ p zp).1 4).trans k4)))
    have B := fun o => (hqo w.heap.size o (by omega)).trans ((bc_w2_2 o).trans (bd_w1_2 o))
    have b0 : wq.cell? ⟨w.heap.size, 0, none⟩ = some (.int .u8 ch) := (B 0).trans (by simp [go_sem])
    have b1 : wq.cell? ⟨w.heap.size, 1, none⟩ = some (.bool false) := (B 1).trans (by simp [go_sem])
    have b2 : wq.cell? ⟨w.heap.size, 2, none⟩ = some (.int .u8 0) := (B 2).trans (by simp [go_sem])
    have b3 : wq.cell? ⟨w.heap.size, 3, none⟩ = some (.int .u8 hi) := (B 3).trans (by simp [go_sem])
    have b4 : wq.cell? ⟨w.heap.size, 4, none⟩ = some (.int .u8 co) := (B 4).trans (by simp [go_sem])
    have b5 : wq.cell? ⟨w.heap.size, 5, none⟩ = some (.int .u8 se) := (B 5).trans (by simp [go_sem])
    have x0 := (gG (k * 6)).trans c0
    have x1 := (gG (k * 6 + 1)).trans c1
    have x2 := (gG (k * 6 + 2)).trans c2
    have x3 := (gG (k * 6 + 3)).trans c3
    have x4 := (gG (k * 6 + 4)).trans c4
    have x5 := (gG (k * 6 + 5)).trans c5
    have y0 := (gF (k * 6)).trans f0
    have y1 := (gF (k * 6 + 1)).trans f1
    have y2 := (gF (k * 6 + 2)).trans f2
    have y3 := (gF (k * 6 + 3)).trans f3
    have y4 := (gF (k * 6 + 4)).trans f4
    have y5 := (gF (k * 6 + 5)).trans f5
    have zq1 : p < wq.heap.size := by omega
    have zq2 : g < wq.heap.size := by omega
    have zq3 : w.heap.size < wq.heap.size := by omega
    have HQ := Lib.hid hq
    have HU := Lib.hid (show Up w w2 by (repeat (first | with_reducible exact Up.refl _ | with_reducible refine Up.alloc ?_ _ | with_reducible refine Up.drew ?_ | with_reducible refine Up.drewN ?_ _ | with_reducible refine Up.setCell ?_ (by (try simp) <;> omega) _ | with_reducible assumption | with_reducible refine Up.trans ?_ (by assumption))))
    clear hqo hqf gG gF B hq hqz c0 c1 c2 c3 c4 c5 f0 f1 f2 f3 f4 f5 k2 k3 k4 k6 fp bc_w2_0 bc_w2_1 bc_w2_2 bd_w1_0 bd_w1_1 bd_w1_2 bf_w2_0 bf_w2_1 bf_w2_2 be_w1_0 be_w1_1 be_w1_2
    refine wp_region_mixT 7 (NS := []) [] rfl (by kernel_rfl) (by kernel_rfl) (by simp) (by simp) ?_
    simp only [List.take_succ_cons, List.take_zero, List.drop_succ_cons, List.drop_zero]
    repeat (first
      | (refine mix_skip rfl rfl ?_; simp only [Act.put, List.setIfInBounds_toArray, List.set_cons_succ, List.set_cons_zero])
      | (refine mix_q rfl rfl rfl (by kernel_rfl) rfl rfl rfl ?_
         apply Exists.intro
         refine ⟨fun Wm => ?_, ?_⟩
         · simp only [fin]
           skip
           intro K hK
           go_wp2_with (fail)
           refine hK _ _ ?_ ?_ ?_
           · (repeat (first | with_reducible exact Up.refl _ | with_reducible refine Up.alloc ?_ _ | with_reducible refine Up.drew ?_ | with_reducible refine Up.drewN ?_ _ | with_reducible refine Up.setCell ?_ (by (try simp) <;> omega) _ | with_reducible assumption | with_reducible refine Up.trans ?_ (by assumption)))
           · rfl
           · exact tmps_at rfl
         simp only [Act.put, List.setIfInBounds_toArray, List.set_cons_succ, List.set_cons_zero]))
    refine mix_nil ?_
    intro w3 hb_w3
    simp only [fin]
    have hu_w3 : Up wq w3 := by (repeat (first | with_reducible exact Up.refl _ | with_reducible refine Up.alloc ?_ _ | with_reducible refine Up.drew ?_ | with_reducible refine Up.drewN ?_ _ | with_reducible refine Up.setCell ?_ (by (try simp) <;> omega) _ | with_reducible assumption | with_reducible refine Up.trans ?_ (by assumption)))
    have hz_w3 := Up.size hb_w3
    try simp at hz_w3
    obtain ⟨bc_w3_0, bf_w3_0⟩ := hu_w3.at_ (p) (by omega)
    obtain ⟨bc_w3_1, bf_w3_1⟩ := hu_w3.at_ (g) (by omega)
    obtain ⟨bc_w3_2, bf_w3_2⟩ := hu_w3.at_ (w.heap.size) (by omega)
    have zb_w3_0 : p < w3.heap.size := by omega
    have zb_w3_1 : g < w3.heap.size := by omega
    have zb_w3_2 : w.heap.size < w3.heap.size := by omega
    go_wp2_with fail
    go_end0
    have hs := (H.out.up HU.out).setAt2 (w3 := w3) HD.out (Cl.fit ⟨ch, false, fa, hi, co, se⟩) (n := (an : Int)) (by rw [HAN.out]; simp [Cl.fit, cnt]; try omega) (by rw [← HQ.out]; exact hb_w3)
    refine ⟨rfl, by rw [HP.out]; exact hs.1, (Keep.of_up HU.out).trans hs.2⟩
  · obtain ⟨wq, hq⟩ : ∃ wq, wq = w2.setCell ⟨p, 6, none⟩ (.int .i64 ((an : Int) + -1)) := ⟨_, rfl⟩
    rw [← hq]
    have hqo : ∀ b o, b ≠ p ∨ o ≠ 6 → wq.cell? ⟨b, o, none⟩ = w2.cell? ⟨b, o, none⟩ := fun b o hbo => by
      rw [hq]; exact World.cell?_setCell_other _ _ _ _ (fun e => by injection e with e1 e2; omega)
    have hqf : ∀ b o, wq.frozen? ⟨b, o, none⟩ = w2.frozen? ⟨b, o, none⟩ := fun b o => by rw [hq]; exact World.frozen?_setCell ..
    have hqz : wq.heap.size = w2.heap.size := by rw [hq]; simp [World.setCell]
    have gG : ∀ o, wq.cell? ⟨g, o, none⟩ = w.cell? ⟨g, o, none⟩ := fun o => (hqo g o (by omega)).trans ((bc_w2_1 o).trans ((bd_w1_1 o).trans ((((Up.refl w).alloc _).at_ g zg).1 o)))
    have gF : ∀ o, wq.frozen? ⟨g, o, none⟩ = w.frozen? ⟨g, o, none⟩ := fun o => (hqf g o).trans ((bf_w2_1 o).trans ((be_w1_1 o).trans ((((Up.refl w).alloc _).at_ g zg).2 o)))
    have e4 := (hqo p 4 (by omega)).trans ((bc_w2_0 4).trans ((bd_w1_0 4).trans (((((Up.refl w).alloc _).at_ p zp).1 4).trans k4)))
    have B := fun o => (hqo w.heap.size o (by omega)).trans ((bc_w2_2 o).trans (bd_w1_2 o))
    have b0 : wq.cell? ⟨w.heap.size, 0, none⟩ = some (.int .u8 ch) := (B 0).trans (by simp [go_sem])
    have b1 : wq.cell? ⟨w.heap.size, 1, none⟩ = some (.bool false) := (B 1).trans (by simp [go_sem])
    have b2 : wq.cell? ⟨w.heap.size, 2, none⟩ = some (.int .u8 0) := (B 2).trans (by simp [go_sem])
    have b3 : wq.cell? ⟨w.heap.size, 3, none⟩ = some (.int .u8 hi) := (B 3).trans (by simp [go_sem])
    have b4 : wq.cell? ⟨w.heap.size, 4, none⟩ = some (.int .u8 co) := (B 4).trans (by simp [go_sem])
    have b5 : wq.cell? ⟨w.heap.size, 5, none⟩ = some (.int .u8 se) := (B 5).trans (by simp [go_sem])
    have x0 := (gG (k * 6)).trans c0
    have x1 := (gG (k * 6 + 1)).trans c1
    have x2 := (gG (k * 6 + 2)).trans c2
    have x3 := (gG (k * 6 + 3)).trans c3
    have x4 := (gG (k * 6 + 4)).trans c4
    have x5 := (gG (k * 6 + 5)).trans c5
    have y0 := (gF (k * 6)).trans f0
    have y1 := (gF (k * 6 + 1)).trans f1
    have y2 := (gF (k * 6 + 2)).trans f2
    have y3 := (gF (k * 6 + 3)).trans f3
    have y4 := (gF (k * 6 + 4)).trans f4
    have y5 := (gF (k * 6 + 5)).trans f5
    have zq1 : p < wq.heap.size := by omega
    have zq2 : g < wq.heap.size := by omega
    have zq3 : w.heap.size < wq.heap.size := by omega
    have HQ := Lib.hid hq
    have HU := Lib.hid (show Up w w2 by (repeat (first | with_reducible exact Up.refl _ | with_reducible refine Up.alloc ?_ _ | with_reducible refine Up.drew ?_ | with_reducible refine Up.drewN ?_ _ | with_reducible refine Up.setCell ?_ (by (try simp) <;> omega) _ | with_reducible assumption | with_reducible refine Up.trans ?_ (by assumption))))
    clear hqo hqf gG gF B hq hqz c0 c1 c2 c3 c4 c5 f0 f1 f2 f3 f4 f5 k2 k3 k4 k6 fp bc_w2_0 bc_w2_1 bc_w2_2 bd_w1_0 bd_w1_1 bd_w1_2 bf_w2_0 bf_w2_1 bf_w2_2 be_w1_0 be_w1_1 be_w1_2
    refine wp_region_mixT 7 (NS := []) [] rfl (by kernel_rfl) (by kernel_rfl) (by simp) (by simp) ?_
    simp only [List.take_succ_cons, List.take_zero, List.drop_succ_cons, List.drop_zero]
    repeat (first
      | (refine mix_skip rfl rfl ?_; simp only [Act.put, List.setIfInBounds_toArray, List.set_cons_succ, List.set_cons_zero])
      | (refine mix_q rfl rfl rfl (by kernel_rfl) rfl rfl rfl ?_
         apply Exists.intro
         refine ⟨fun Wm => ?_, ?_⟩
         · simp only [fin]
           skip
           intro K hK
           go_wp2_with (fail)
           refine hK _ _ ?_ ?_ ?_
           · (repeat (first | with_reducible exact Up.refl _ | with_reducible refine Up.alloc ?_ _ | with_reducible refine Up.drew ?_ | with_reducible refine Up.drewN ?_ _ | with_reducible refine Up.setCell ?_ (by (try simp) <;> omega) _ | with_reducible assumption | with_reducible refine Up.trans ?_ (by assumption)))
           · rfl
           · exact tmps_at rfl
         simp only [Act.put, List.setIfInBounds_toArray, List.set_cons_succ, List.set_cons_zero]))
    refine mix_nil ?_
    intro w3 hb_w3
    simp only [fin]
    have hu_w3 : Up wq w3 := by (repeat (first | with_reducible exact Up.refl _ | with_reducible refine Up.alloc ?_ _ | with_reducible refine Up.drew ?_ | with_reducible refine Up.drewN ?_ _ | with_reducible refine Up.setCell ?_ (by (try simp) <;> omega) _ | with_reducible assumption | with_reducible refine Up.trans ?_ (by assumption)))
    have hz_w3 := Up.size hb_w3
    try simp at hz_w3
    obtain ⟨bc_w3_0, bf_w3_0⟩ := hu_w3.at_ (p) (by omega)
    obtain ⟨bc_w3_1, bf_w3_1⟩ := hu_w3.at_ (g) (by omega)
    obtain ⟨bc_w3_2, bf_w3_2⟩ := hu_w3.at_ (w.heap.size) (by omega)
    have zb_w3_0 : p < w3.heap.size := by omega
    have zb_w3_1 : g < w3.heap.size := by omega
    have zb_w3_2 : w.heap.size < w3.heap.size := by omega
    go_wp2_with fail
    go_end0
    have hs := (H.out.up HU.out).setAt2 (w3 := w3) HD.out (Cl.fit ⟨ch, false, fa, hi, co, se⟩) (n := (an : Int) + -1) (by rw [HAN.out]; simp [Cl.fit, cnt]; try omega) (by rw [← HQ.out]; exact hb_w3)
    refine ⟨rfl, by rw [HP.out]; exact hs.1, (Keep.of_up HU.out).trans hs.2⟩
  · obtain ⟨wq, hq⟩ : ∃ wq, wq = w2.setCell ⟨p, 6, none⟩ (.int .i64 ((an : Int) + 1)) := ⟨_, rfl⟩
    rw [← hq]
    have hqo : ∀ b o, b ≠ p ∨ o ≠ 6 → wq.cell? ⟨b, o, none⟩ = w2.cell? ⟨b, o, none⟩ := fun b o hbo => by
      rw [hq]; exact World.cell?_setCell_other _ _ _ _ (fun e => by injection e with e1 e2; omega)
    have hqf : ∀ b o, wq.frozen? ⟨b, o, none⟩ = w2.frozen? ⟨b, o, none⟩ := fun b o => by rw [hq]; exact World.frozen?_setCell ..
    have hqz : wq.heap.size = w2.heap.size := by rw [hq]; simp [World.setCell]
    have gG : ∀ o, wq.cell? ⟨g, o, none⟩ = w.cell? ⟨g, o, none⟩ := fun o => (hqo g o (by omega)).trans ((bc_w2_1 o).trans ((bd_w1_1 o).trans ((((Up.refl w).alloc _).at_ g zg).1 o)))
    have gF : ∀ o, wq.frozen? ⟨g, o, none⟩ = w.frozen? ⟨g, o, none⟩ := fun o => (hqf g o).trans ((bf_w2_1 o).trans ((be_w1_1 o).trans ((((Up.refl w).alloc _).at_ g zg).2 o)))
    have e4 := (hqo p 4 (by omega)).trans ((bc_w2_0 4).trans ((bd_w1_0 4).trans (((((Up.refl w).alloc _).at_ p zp).1 4).trans k4)))
    have B := fun o => (hqo w.heap.size o (by omega)).trans ((bc_w2_2 o).trans (bd_w1_2 o))
    have b0 : wq.cell? ⟨w.heap.size, 0, none⟩ = some (.int .u8 0) := (B 0).trans (by simp [go_sem])
    have b1 : wq.cell? ⟨w.heap.size, 1, none⟩ = some (.bool true) := (B 1).trans (by simp [go_sem])
    have b2 : wq.cell? ⟨w.heap.size, 2, none⟩ = some (.int .u8 (six05 fa)) := (B 2).trans (by simp [go_sem])
    have b3 : wq.cell? ⟨w.heap.size, 3, none⟩ = some (.int .u8 hi) := (B 3).trans (by simp [go_sem])
    have b4 : wq.cell? ⟨w.heap.size, 4, none⟩ = some (.int .u8 co) := (B 4).trans (by simp [go_sem])
    have b5 : wq.cell? ⟨w.heap.size, 5, none⟩ = some (.int .u8 se) := (B 5).trans (by simp [go_sem])
    have x0 := (gG (k * 6)).trans c0
    have x1 := (gG (k * 6 + 1)).trans c1
    have x2 := (gG (k * 6 + 2)).trans c2
    have x3 := (gG (k * 6 + 3)).trans c3
    have x4 := (gG (k * 6 + 4)).trans c4
    have x5 := (gG (k * 6 + 5)).trans c5
    have y0 := (gF (k * 6)).trans f0
    have y1 := (gF (k * 6 + 1)).trans f1
    have y2 := (gF (k * 6 + 2)).trans f2
    have y3 := (gF (k * 6 + 3)).trans f3
    have y4 := (gF (k * 6 + 4)).trans f4
    have y5 := (gF (k * 6 + 5)).trans f5
    have zq1 : p < wq.heap.size := by omega
    have zq2 : g < wq.heap.size := by omega
    have zq3 : w.heap.size < wq.heap.size := by omega
    have HQ := Lib.hid hq
    have HU := Lib.hid (show Up w w2 by (repeat (first | with_reducible exact Up.refl _ | with_reducible refine Up.alloc ?_ _ | with_reducible refine Up.drew ?_ | with_reducible refine Up.drewN ?_ _ | with_reducible refine Up.setCell ?_ (by (try simp) <;> omega) _ | with_reducible assumption | with_reducible refine Up.trans ?_ (by assumption))))
    clear hqo hqf gG gF B hq hqz c0 c1 c2 c3 c4 c5 f0 f1 f2 f3 f4 f5 k2 k3 k4 k6 fp bc_w2_0 bc_w2_1 bc_w2_2 bd_w1_0 bd_w1_1 bd_w1_2 bf_w2_0 bf_w2_1 bf_w2_2 be_w1_0 be_w1_1 be_w1_2
    refine wp_region_mixT 7 (NS := []) [] rfl (by kernel_rfl) (by kernel_rfl) (by simp) (by simp) ?_
    simp only [List.take_succ_cons, List.take_zero, List.drop_succ_cons, List.drop_zero]
    repeat (first
      | (refine mix_skip rfl rfl ?_; simp only [Act.put, List.setIfInBounds_toArray, List.set_cons_succ, List.set_cons_zero])
      | (refine mix_q rfl rfl rfl (by kernel_rfl) rfl rfl rfl ?_
         apply Exists.intro
         refine ⟨fun Wm => ?_, ?_⟩
         · simp only [fin]
           skip
           intro K hK
           go_wp2_with (fail)
           refine hK _ _ ?_ ?_ ?_
           · (repeat (first | with_reducible exact Up.refl _ | with_reducible refine Up.alloc ?_ _ | with_reducible refine Up.drew ?_ | with_reducible refine Up.drewN ?_ _ | with_reducible refine Up.setCell ?_ (by (try simp) <;> omega) _ | with_reducible assumption | with_reducible refine Up.trans ?_ (by assumption)))
           · rfl
           · exact tmps_at rfl
         simp only [Act.put, List.setIfInBounds_toArray, List.set_cons_succ, List.set_cons_zero]))
    refine mix_nil ?_
    intro w3 hb_w3
    simp only [fin]
    have hu_w3 : Up wq w3 := by (repeat (first | with_reducible exact Up.refl _ | with_reducible refine Up.alloc ?_ _ | with_reducible refine Up.drew ?_ | with_reducible refine Up.drewN ?_ _ | with_reducible refine Up.setCell ?_ (by (try simp) <;> omega) _ | with_reducible assumption | with_reducible refine Up.trans ?_ (by assumption)))
    have hz_w3 := Up.size hb_w3
    try simp at hz_w3
    obtain ⟨bc_w3_0, bf_w3_0⟩ := hu_w3.at_ (p) (by omega)
    obtain ⟨bc_w3_1, bf_w3_1⟩ := hu_w3.at_ (g) (by omega)
    obtain ⟨bc_w3_2, bf_w3_2⟩ := hu_w3.at_ (w.heap.size) (by omega)
    have zb_w3_0 : p < w3.heap.size := by omega
    have zb_w3_1 : g < w3.heap.size := by omega
    have zb_w3_2 : w.heap.size < w3.heap.size := by omega
    go_wp2_with fail
    go_end0
    have hs := (H.out.up HU.out).setAt2 (w3 := w3) HD.out (Cl.fit ⟨ch, true, fa, hi, co, se⟩) (n := (an : Int) + 1) (by rw [HAN.out]; simp [Cl.fit, cnt]; try omega) (by rw [← HQ.out]; exact hb_w3)
    refine ⟨rfl, by rw [HP.out]; exact hs.1, (Keep.of_up HU.out).trans hs.2⟩
  · obtain ⟨wq, hq⟩ : ∃ wq, wq = w2.setCell ⟨p, 6, none⟩ (.int .i64 ((an : Int))) := ⟨_, rfl⟩
    rw [← hq]
    have hqo : ∀ b o, b ≠ p ∨ o ≠ 6 → wq.cell? ⟨b, o, none⟩ = w2.cell? ⟨b, o, none⟩ := fun b o hbo => by
      rw [hq]; exact World.cell?_setCell_other _ _ _ _ (fun e => by injection e with e1 e2; omega)
    have hqf : ∀ b o, wq.frozen? ⟨b, o, none⟩ = w2.frozen? ⟨b, o, none⟩ := fun b o => by rw [hq]; exact World.frozen?_setCell ..
    have hqz : wq.heap.size = w2.heap.size := by rw [hq]; simp [World.setCell]
    have gG : ∀ o, wq.cell? ⟨g, o, none⟩ = w.cell? ⟨g, o, none⟩ := fun o => (hqo g o (by omega)).trans ((bc_w2_1 o).trans ((bd_w1_1 o).trans ((((Up.refl w).alloc _).at_ g zg).1 o)))
    have gF : ∀ o, wq.frozen? ⟨g, o, none⟩ = w.frozen? ⟨g, o, none⟩ := fun o => (hqf g o).trans ((bf_w2_1 o).trans ((be_w1_1 o).trans ((((Up.refl w).alloc _).at_ g zg).2 o)))
    have e4 := (hqo p 4 (by omega)).trans ((bc_w2_0 4).trans ((bd_w1_0 4).trans (((((Up.refl w).alloc _).at_ p zp).1 4).trans k4)))
    have B := fun o => (hqo w.heap.size o (by omega)).trans ((bc_w2_2 o).trans (bd_w1_2 o))
    have b0 : wq.cell? ⟨w.heap.size, 0, none⟩ = some (.int .u8 0) := (B 0).trans (by simp [go_sem])
    have b1 : wq.cell? ⟨w.heap.size, 1, none⟩ = some (.bool true) := (B 1).trans (by simp [go_sem])
    have b2 : wq.cell? ⟨w.heap.size, 2, none⟩ = some (.int .u8 (six05 fa)) := (B 2).trans (by simp [go_sem])
    have b3 : wq.cell? ⟨w.heap.size, 3, none⟩ = some (.int .u8 hi) := (B 3).trans (by simp [go_sem])
    have b4 : wq.cell? ⟨w.heap.size, 4, none⟩ = some (.int .u8 co) := (B 4).trans (by simp [go_sem])
    have b5 : wq.cell? ⟨w.heap.size, 5, none⟩ = some (.int .u8 se) := (B 5).trans (by simp [go_sem])
    have x0 := (gG (k * 6)).trans c0
    have x1 := (gG (k * 6 + 1)).trans c1
    have x2 := (gG (k * 6 + 2)).trans c2
    have x3 := (gG (k * 6 + 3)).trans c3
    have x4 := (gG (k * 6 + 4)).trans c4
    have x5 := (gG (k * 6 + 5)).trans c5
    have y0 := (gF (k * 6)).trans f0
    have y1 := (gF (k * 6 + 1)).trans f1
    have y2 := (gF (k * 6 + 2)).trans f2
    have y3 := (gF (k * 6 + 3)).trans f3
    have y4 := (gF (k * 6 + 4)).trans f4
    have y5 := (gF (k * 6 + 5)).trans f5
    have zq1 : p < wq.heap.size := by omega
    have zq2 : g < wq.heap.size := by omega
    have zq3 : w.heap.size < wq.heap.size := by omega
    have HQ := Lib.hid hq
    have HU := Lib.hid (show Up w w2 by (repeat (first | with_reducible exact Up.refl _ | with_reducible refine Up.alloc ?_ _ | with_reducible refine Up.drew ?_ | with_reducible refine Up.drewN ?_ _ | with_reducible refine Up.setCell ?_ (by (try simp) <;> omega) _ | with_reducible assumption | with_reducible refine Up.trans ?_ (by assumption))))
    clear hqo hqf gG gF B hq hqz c0 c1 c2 c3 c4 c5 f0 f1 f2 f3 f4 f5 k2 k3 k4 k6 fp bc_w2_0 bc_w2_1 bc_w2_2 bd_w1_0 bd_w1_1 bd_w1_2 bf_w2_0 bf_w2_1 bf_w2_2 be_w1_0 be_w1_1 be_w1_2
    refine wp_region_mixT 7 (NS := []) [] rfl (by kernel_rfl) (by kernel_rfl) (by simp) (by simp) ?_
    simp only [List.take_succ_cons, List.take_zero, List.drop_succ_cons, List.drop_zero]
    repeat (first
      | (refine mix_skip rfl rfl ?_; simp only [Act.put, List.setIfInBounds_toArray, List.set_cons_succ, List.set_cons_zero])
      | (refine mix_q rfl rfl rfl (by kernel_rfl) rfl rfl rfl ?_
         apply Exists.intro
         refine ⟨fun Wm => ?_, ?_⟩
         · simp only [fin]
           skip
           intro K hK
           go_wp2_with (fail)
           refine hK _ _ ?_ ?_ ?_
           · (repeat (first | with_reducible exact Up.refl _ | with_reducible refine Up.alloc ?_ _ | with_reducible refine Up.drew ?_ | with_reducible refine Up.drewN ?_ _ | with_reducible refine Up.setCell ?_ (by (try simp) <;> omega) _ | with_reducible assumption | with_reducible refine Up.trans ?_ (by assumption)))
           · rfl
           · exact tmps_at rfl
         simp only [Act.put, List.setIfInBounds_toArray, List.set_cons_succ, List.set_cons_zero]))
    refine mix_nil ?_
    intro w3 hb_w3
    simp only [fin]
    have hu_w3 : Up wq w3 := by (repeat (first | with_reducible exact Up.refl _ | with_reducible refine Up.alloc ?_ _ | with_reducible refine Up.drew ?_ | with_reducible refine Up.drewN ?_ _ | with_reducible refine Up.setCell ?_ (by (try simp) <;> omega) _ | with_reducible assumption | with_reducible refine Up.trans ?_ (by assumption)))
    have hz_w3 := Up.size hb_w3
    try simp at hz_w3
    obtain ⟨bc_w3_0, bf_w3_0⟩ := hu_w3.at_ (p) (by omega)
    obtain ⟨bc_w3_1, bf_w3_1⟩ := hu_w3.at_ (g) (by omega)
    obtain ⟨bc_w3_2, bf_w3_2⟩ := hu_w3.at_ (w.heap.size) (by omega)
    have zb_w3_0 : p < w3.heap.size := by omega
    have zb_w3_1 : g < w3.heap.size := by omega
    have zb_w3_2 : w.heap.size < w3.heap.size := by omega
    go_wp2_with fail
    go_end0
    have hs := (H.out.up HU.out).setAt2 (w3 := w3) HD.out (Cl.fit ⟨ch, true, fa, hi, co, se⟩) (n := (an : Int)) (by rw [HAN.out]; simp [Cl.fit, cnt]; try omega) (by rw [← HQ.out]; exact hb_w3)
    refine ⟨rfl, by rw [HP.out]; exact hs.1, (Keep.of_up HU.out).trans hs.2⟩
end Go.Proofs.YtamfjgioajmnpaaGreatDoor
