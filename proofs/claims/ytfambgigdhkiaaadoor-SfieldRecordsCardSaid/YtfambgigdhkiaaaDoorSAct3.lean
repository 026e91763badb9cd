/-
  What sfield's Act makes of a field: partitions that come and go; outbound data. Condition: write's table lies as the row lists it.
-/
import Derived.Test.YtfambgigdhkiaaaDoorSAct2
namespace Go.Proofs.YtfambgigdhkiaaaDoor
open Go.RowKit
set_option linter.unusedVariables false
set_option linter.unusedSimpArgs false

set_option maxHeartbeats 3200000 in
theorem parts_is {B : Nat} {A : Option Addr} {n c : Nat} {l : List Int} {w : World} {k : Int} (hk : k = 6 ∨ k = 7 ∨ k = 8) (h : Sl B w A n c l) :
    Calls Tryd.prog 36 #[.int .i64 k, .slice A n c] w (ActRet w (partsOf k l)) := by
  have hl := h.len
  by_cases h1 : n < 1
  · have hr := Lib.hid (show partsOf k l = (zAct, 4) by unfold partsOf; rw [if_pos (.inl (by omega))])
    clear h hl hk
    go_enter Tryd.func36, Tryd.ntmps36
    go_wp2
    rw [hr.out]
    exact bodyPost_ret (v := .tuple #[actV zAct none 0 none 0, .int .i64 4]) (by simp [results, Tryd.results36, go_sem, actV, zAct]) rfl (ActRet.zero rfl (by (repeat (first | with_reducible exact Up.refl _ | with_reducible refine Up.alloc ?_ _ | with_reducible refine Up.drew ?_ | with_reducible refine Up.drewN ?_ _ | with_reducible refine Up.setCell ?_ (by (try simp) <;> omega) _ | with_reducible assumption | with_reducible refine Up.trans ?_ (by assumption)))))
  · obtain ⟨b, off, rfl, hb⟩ := h.form (by omega)
    have hc := h.cell (i := 0) (by omega)
    obtain ⟨x, hxe⟩ : ∃ x, l.getD 0 0 = x := ⟨_, rfl⟩
    rw [hxe] at hc
    rw [Nat.add_zero] at hc
    by_cases g : k ≠ 6 ∧ 1 < n
    · have hr := Lib.hid (show partsOf k l = (zAct, 4) by unfold partsOf; rw [if_pos (.inr (by omega))])
      have g1 : (k != 6) = true := by simpa using g.1
      have g2 := g.2
      clear h hl hxe g hk
      go_enter Tryd.func36, Tryd.ntmps36
      go_wp2
      rw [hr.out]
      exact bodyPost_ret (v := .tuple #[actV zAct none 0 none 0, .int .i64 4]) (by simp [results, Tryd.results36, go_sem, actV, zAct]) rfl (ActRet.zero rfl (by (repeat (first | with_reducible exact Up.refl _ | with_reducible refine Up.alloc ?_ _ | with_reducible refine Up.drew ?_ | with_reducible refine Up.drewN ?_ _ | with_reducible refine Up.setCell ?_ (by (try simp) <;> omega) _ | with_reducible assumption | with_reducible refine Up.trans ?_ (by assumption)))))
    · have hr := Lib.hid (show partsOf k l = partOf ⟨k, 0, 0, false, 0, [], []⟩ l 0 by unfold partsOf; rw [if_neg (by omega)])
      have HE := Lib.hid hxe
      have g2 : ((k != 6) = false) ∨ ((k != 6) = true ∧ ¬ 1 < (n : Int)) := by
        rcases hk with rfl | rfl | rfl
        · exact .inl rfl
        · exact .inr ⟨rfl, by omega⟩
        · exact .inr ⟨rfl, by omega⟩
      have h0 : 0 < (n : Int) := by omega
      clear h hl hxe g hk
      by_cases gx : x = 0
      · subst gx
        have hp := Lib.hid (show partOf ⟨k, 0, 0, false, 0, [], []⟩ l 0 = (⟨k, 0, 0, false, 0, [], []⟩, 0) by unfold partOf; rw [if_pos HE.out])
        rcases g2 with g2 | ⟨g2, g3⟩
        all_goals
          go_enter Tryd.func36, Tryd.ntmps36
          go_wp2_with fail
          refine (part_yes rfl (by omega) (by simp; omega) ((World.cell?_alloc_lt _ _ _ hb).trans hc)).mono ?_
          rintro e w1 ⟨rfl, hb_w1⟩
          have hu_w1 : Up w w1 := by (repeat (first | with_reducible exact Up.refl _ | with_reducible refine Up.alloc ?_ _ | with_reducible refine Up.drew ?_ | with_reducible refine Up.drewN ?_ _ | with_reducible refine Up.setCell ?_ (by (try simp) <;> omega) _ | with_reducible assumption | with_reducible refine Up.trans ?_ (by assumption)))
          have hz_w1 := Up.size hb_w1
          try simp at hz_w1
          obtain ⟨bd_w1_0, be_w1_0⟩ := hb_w1.at_ (w.heap.size) (by (try simp) <;> omega)
          have zb_w1_0 : w.heap.size < w1.heap.size := by omega
          go_wp2_with fail
          rw [hr.out, hp.out]
          exact bodyPost_ret (v := .tuple #[actV ⟨k, 0, 0, false, 0, [], []⟩ none 0 none 0, .int .i64 0]) (by simp [results, Tryd.results36, go_sem, actV, *]) rfl (ActRet.plain rfl (by (repeat (first | with_reducible exact Up.refl _ | with_reducible refine Up.alloc ?_ _ | with_reducible refine Up.drew ?_ | with_reducible refine Up.drewN ?_ _ | with_reducible refine Up.setCell ?_ (by (try simp) <;> omega) _ | with_reducible assumption | with_reducible refine Up.trans ?_ (by assumption)))))
      · have hp := Lib.hid (show partOf ⟨k, 0, 0, false, 0, [], []⟩ l 0 = (zAct, 1) by unfold partOf; rw [if_neg (by rw [HE.out]; exact gx)])
        have e0 : (x == 0) = false := by simpa using gx
        clear gx
        rcases g2 with g2 | ⟨g2, g3⟩
        all_goals
          go_enter Tryd.func36, Tryd.ntmps36
          go_wp2_with fail
          refine (part_no rfl (by omega) (by simp; omega) ((World.cell?_alloc_lt _ _ _ hb).trans hc) e0).mono ?_
          rintro e w1 ⟨rfl, hb_w1⟩
          have hu_w1 : Up w w1 := by (repeat (first | with_reducible exact Up.refl _ | with_reducible refine Up.alloc ?_ _ | with_reducible refine Up.drew ?_ | with_reducible refine Up.drewN ?_ _ | with_reducible refine Up.setCell ?_ (by (try simp) <;> omega) _ | with_reducible assumption | with_reducible refine Up.trans ?_ (by assumption)))
          have hz_w1 := Up.size hb_w1
          try simp at hz_w1
          obtain ⟨bd_w1_0, be_w1_0⟩ := hb_w1.at_ (w.heap.size) (by (try simp) <;> omega)
          have zb_w1_0 : w.heap.size < w1.heap.size := by omega
          go_wp2_with fail
          rw [hr.out, hp.out]
          exact bodyPost_ret (v := .tuple #[actV zAct none 0 none 0, .int .i64 1]) (by simp [results, Tryd.results36, go_sem, actV, zAct, *]) rfl (ActRet.zero rfl (by (repeat (first | with_reducible exact Up.refl _ | with_reducible refine Up.alloc ?_ _ | with_reducible refine Up.drew ?_ | with_reducible refine Up.drewN ?_ _ | with_reducible refine Up.setCell ?_ (by (try simp) <;> omega) _ | with_reducible assumption | with_reducible refine Up.trans ?_ (by assumption)))))
end Go.Proofs.YtfambgigdhkiaaaDoor
