/-
  How the reference's screen lies in memory; what its Wrap, At, Fit, Set, Put compute. No condition.
-/
import Derived.Test.YtjokcfenncogkaaSp4
namespace Go.Proofs.Ytjokcfenncogkaa
open Go.RowKit
set_option linter.unusedVariables false
set_option linter.unusedSimpArgs false

/-- the reference's space -/
structure RAt (w : World) (q h : Nat) (X : Spc) : Prop where
  ne : q ≠ h
  lt : q < w.heap.size
  free : FreeAt w q
  h0 : w.cell? ⟨q, 0, none⟩ = some (.int .i64 X.model)
  h1 : w.cell? ⟨q, 1, none⟩ = some (.bool X.alt)
  h2 : w.cell? ⟨q, 2, none⟩ = some (.int .i64 X.r)
  h3 : w.cell? ⟨q, 3, none⟩ = some (.int .i64 X.c)
  h4 : ∃ cap, X.L.length ≤ cap ∧ cap ≤ maxLen ∧ w.cell? ⟨q, 4, none⟩ = some (.slice (some ⟨h, 0, none⟩) X.L.length cap)
  h5 : w.cell? ⟨q, 5, none⟩ = some (.int .i64 X.cur)
  cells : CellsAt w h X.L
theorem RAt.keep {w w' : World} {p g : Nat} {X : Spc} (h : RAt w p g X) (hp : w'.heap[p]? = w.heap[p]?) (hg : w'.heap[g]? = w.heap[g]?) : RAt w' p g X := by
  have hc : ∀ o, w'.cell? ⟨p, o, none⟩ = w.cell? ⟨p, o, none⟩ := fun o => World.cell?_of_block (show w'.heap[p]? = w.heap[p]? from hp)
  obtain ⟨cap, c1, c2, c3⟩ := h.h4
  exact ⟨h.ne, heap_lt hp h.lt, h.free.keep hp, (hc _).trans h.h0, (hc _).trans h.h1, (hc _).trans h.h2, (hc _).trans h.h3, ⟨cap, c1, c2, (hc _).trans c3⟩, (hc _).trans h.h5, h.cells.keep hg⟩
theorem RAt.up {w w' : World} {p g : Nat} {X : Spc} (h : RAt w p g X) (hu : Up w w') : RAt w' p g X := h.keep (hu.block p h.lt) (hu.block g h.cells.2.1)
theorem RAt.held {w w' : World} {p g : Nat} {X : Spc} {E : Nat → Prop} (h : RAt w p g X) (hk : Keep E w w') (hp : ¬ E p) (hg : ¬ E g) : RAt w' p g X := h.keep (hk.block p h.lt hp) (hk.block g h.cells.2.1 hg)
theorem RAt.cur {w : World} {p g : Nat} {X : Spc} (h : RAt w p g X) (x : Int) : RAt (w.setCell ⟨p, 5, none⟩ (.int .i64 x)) p g { X with cur := x } := by
  have o : ∀ n : Nat, n ≠ 5 → (w.setCell ⟨p, 5, none⟩ (.int .i64 x)).cell? ⟨p, n, none⟩ = w.cell? ⟨p, n, none⟩ := fun n hn => World.cell?_setCell_other _ _ _ _ (ad_ne2 (Ne.symm hn))
  obtain ⟨cap, c1, c2, c3⟩ := h.h4
  exact ⟨h.ne, by simp [World.setCell]; exact h.lt, h.free.set _ _, (o 0 (by omega)).trans h.h0, (o 1 (by omega)).trans h.h1, (o 2 (by omega)).trans h.h2, (o 3 (by omega)).trans h.h3, ⟨cap, c1, c2, (o 4 (by omega)).trans c3⟩,
    World.cell?_setCell_same (h := h.h5) .., h.cells.other _ _ h.ne⟩
theorem RAt.setAt {w : World} {p g : Nat} {X : Spc} (h : RAt w p g X) {k : Nat} (hlt : k < X.L.length) (c : Cl) : RAt (store6 w g (k * 6) c) p g { X with L := X.L.set k c } := by
  have o : ∀ n', (store6 w g (k * 6) c).cell? ⟨p, n', none⟩ = w.cell? ⟨p, n', none⟩ := fun n' => ((store6_keep w g (k * 6) c).at_ p h.lt h.ne).1 n'
  obtain ⟨cap, c1, c2, c3⟩ := h.h4
  exact ⟨h.ne, by rw [store6_size]; exact h.lt, store6_free h.free, (o 0).trans h.h0, (o 1).trans h.h1, (o 2).trans h.h2, (o 3).trans h.h3, ⟨cap, by simp; exact c1, c2, by simp; exact (o 4).trans c3⟩,
    (o 5).trans h.h5, h.cells.store hlt c⟩

set_option maxHeartbeats 400000 in
theorem rwrap_is {q h : Nat} {X : Spc} {w : World} (n : Int) (hr : RAt w q h X) (ok : X.Ok) :
    Calls Try.prog 34 #[.pointer (some ⟨q, 0, none⟩), .int .i64 n] w fun e w' => e = .returned (.int .i64 (X.wrap n : Int)) ∧ Up w w' := by
  obtain ⟨k, hk⟩ : ∃ k, X.wrap n = k := ⟨_, rfl⟩
  have hw := ok.wrap n
  rw [hk] at hw ⊢
  have HW1 := Lib.hid hw.1
  have hv := Lib.hid ok.valid
  have k2 := hr.h2
  have k3 := hr.h3
  clear hw hk ok hr
  go_enter Try.func34, Try.ntmps34
  go_wp2_with fail
  refine (((ref_wrap_good _ _ n _ hv.out).mono fun e w' h => (show e = .returned (.int .i64 (k : Int)) ∧ Up _ w' by rw [← HW1.out]; exact h))).mono ?_
  rintro e w1 ⟨rfl, hb_w1⟩
  have hu_w1 : Up w w1 := by (repeat (first | with_reducible exact Up.refl _ | with_reducible refine Up.alloc ?_ _ | with_reducible refine Up.drew ?_ | with_reducible refine Up.drewN ?_ _ | with_reducible refine Up.setCell ?_ (by (try simp) <;> omega) _ | with_reducible assumption | with_reducible refine Up.trans ?_ (by assumption)))
  have hz_w1 := Up.size hb_w1
  try simp at hz_w1
  go_wp2_with fail
  go_ret
  exact ⟨rfl, by (repeat (first | with_reducible exact Up.refl _ | with_reducible refine Up.alloc ?_ _ | with_reducible refine Up.drew ?_ | with_reducible refine Up.drewN ?_ _ | with_reducible refine Up.setCell ?_ (by (try simp) <;> omega) _ | with_reducible assumption | with_reducible refine Up.trans ?_ (by assumption)))⟩
set_option maxHeartbeats 800000 in
theorem rat_is {q h : Nat} {X : Spc} {w : World} (n : Int) (hr : RAt w q h X) (ok : X.Ok) :
    Calls Try.prog 46 #[.pointer (some ⟨q, 0, none⟩), .int .i64 n] w fun e w' => e = .returned (X.at_ n).val ∧ Up w w' := by
  have HR := Lib.hid hr
  have HO := Lib.hid ok
  obtain ⟨k, hk⟩ : ∃ k, X.wrap n = k := ⟨_, rfl⟩
  have hw := ok.wrap n
  rw [hk] at hw
  obtain ⟨hw1, hw2⟩ := hw
  have HK := Lib.hid hk
  obtain ⟨c, hc⟩ : ∃ c, X.L[k]? = some c := ⟨_, List.getElem?_eq_getElem hw2⟩
  have hat : X.at_ n = c := by unfold Spc.at_; rw [hk, List.getD, hc]; rfl
  rw [hat]
  obtain ⟨c0, c1, c2, c3, c4, c5⟩ := hr.cells.2.2 k c hc
  obtain ⟨cap, q1, q2, k4⟩ := hr.h4
  have zp := hr.lt
  have zg := hr.cells.2.1
  generalize X.L.length = m at *
  clear hc hat hk hw1 hr ok
  have hm : (k : Int) < (m : Int) := by omega
  have hcp : (cap : Int) ≤ 9223372036854775807 := by simp [maxLen] at q2; omega
  go_enter Try.func46, Try.ntmps46
  go_wp2_with fail
  refine wp_region_mixT 9 (NS := []) [] rfl (by kernel_rfl) (by kernel_rfl) (by simp) (by simp) ?_
  simp only [List.take_succ_cons, List.take_zero, List.drop_succ_cons, List.drop_zero]
  repeat (first
    | (refine mix_skip rfl rfl ?_; simp only [Act.put, List.setIfInBounds_toArray, List.set_cons_succ, List.set_cons_zero])
    | (refine mix_q rfl rfl rfl (by kernel_rfl) rfl rfl rfl ?_
       apply Exists.intro
       refine ⟨fun Wm => ?_, ?_⟩
       · simp only [fin]
         skip
         intro K hK
         go_wp2_with ((go_at_call 34; (with_reducible refine (rwrap_is n (HR.out.up (Up.trans ((Up.refl w).alloc _) (up_upOf _ _))) HO.out).mono ?_); rw [HK.out]; rintro e w' ⟨rfl, hux⟩))
         refine hK _ _ ?_ ?_ ?_
         · (repeat (first | with_reducible exact Up.refl _ | with_reducible refine Up.alloc ?_ _ | with_reducible refine Up.drew ?_ | with_reducible refine Up.drewN ?_ _ | with_reducible refine Up.setCell ?_ (by (try simp) <;> omega) _ | with_reducible assumption | with_reducible refine Up.trans ?_ (by assumption)))
         · rfl
         · exact tmps_at rfl
       simp only [Act.put, List.setIfInBounds_toArray, List.set_cons_succ, List.set_cons_zero]))
  refine mix_nil ?_
  intro w1 hb_w1
  simp only [fin]
  have hu_w1 : Up w w1 := by (repeat (first | with_reducible exact Up.refl _ | with_reducible refine Up.alloc ?_ _ | with_reducible refine Up.drew ?_ | with_reducible refine Up.drewN ?_ _ | with_reducible refine Up.setCell ?_ (by (try simp) <;> omega) _ | with_reducible assumption | with_reducible refine Up.trans ?_ (by assumption)))
  have hz_w1 := Up.size hb_w1
  try simp at hz_w1
  obtain ⟨bd_w1_0, be_w1_0⟩ := hb_w1.at_ (w.heap.size) (by (try simp) <;> omega)
  have zb_w1_0 : w.heap.size < w1.heap.size := by omega
  go_wp2_with fail
  refine bodyPost_ret (v := c.val) (by simp [results, Try.results46, go_sem, Cl.val, bd_w1_0]) rfl ⟨rfl, by (repeat (first | with_reducible exact Up.refl _ | with_reducible refine Up.alloc ?_ _ | with_reducible refine Up.drew ?_ | with_reducible refine Up.drewN ?_ _ | with_reducible refine Up.setCell ?_ (by (try simp) <;> omega) _ | with_reducible assumption | with_reducible refine Up.trans ?_ (by assumption)))⟩
theorem six_is (b : Int) (h0 : 0 ≤ b) (h1 : b ≤ 255) (w : World) : Calls Try.prog 117 #[.int .u8 b] w fun e w' => e = .returned (.int .u8 (six05 b)) ∧ Up w w' := by
  have hd := fD_bd b
  go_enter Try.func117, Try.ntmps117
  go_wp2_with fail
  refine (ref_of_any b _ h0 h1).mono ?_
  rintro e w1 ⟨rfl, hb_w1⟩
  have hu_w1 : Up w w1 := by (repeat (first | with_reducible exact Up.refl _ | with_reducible refine Up.alloc ?_ _ | with_reducible refine Up.drew ?_ | with_reducible refine Up.drewN ?_ _ | with_reducible refine Up.setCell ?_ (by (try simp) <;> omega) _ | with_reducible assumption | with_reducible refine Up.trans ?_ (by assumption)))
  have hz_w1 := Up.size hb_w1
  try simp at hz_w1
  go_wp2_with fail
  refine (ref_bits_good _ _ _ _ _ hd.1 hd.2).mono ?_
  rintro e w2 ⟨rfl, hb_w2⟩
  have hu_w2 : Up w1 w2 := by (repeat (first | with_reducible exact Up.refl _ | with_reducible refine Up.alloc ?_ _ | with_reducible refine Up.drew ?_ | with_reducible refine Up.drewN ?_ _ | with_reducible refine Up.setCell ?_ (by (try simp) <;> omega) _ | with_reducible assumption | with_reducible refine Up.trans ?_ (by assumption)))
  have hz_w2 := Up.size hb_w2
  try simp at hz_w2
  go_wp2_with fail
  go_ret
  exact ⟨rfl, by (repeat (first | with_reducible exact Up.refl _ | with_reducible refine Up.alloc ?_ _ | with_reducible refine Up.drew ?_ | with_reducible refine Up.drewN ?_ _ | with_reducible refine Up.setCell ?_ (by (try simp) <;> omega) _ | with_reducible assumption | with_reducible refine Up.trans ?_ (by assumption)))⟩
end Go.Proofs.Ytjokcfenncogkaa
