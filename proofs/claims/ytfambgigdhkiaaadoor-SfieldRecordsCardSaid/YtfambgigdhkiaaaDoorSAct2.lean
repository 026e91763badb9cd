/-
  What sfield's Act makes of a field: reply modes, partitions. No condition.
-/
import Derived.Test.YtfambgigdhkiaaaDoorSAct
namespace Go.Proofs.YtfambgigdhkiaaaDoor
open Go.RowKit
set_option linter.unusedVariables false
set_option linter.unusedSimpArgs false

set_option maxHeartbeats 1600000 in
theorem sets_is {B : Nat} {A : Option Addr} {n c : Nat} {l : List Int} {w : World} (h : Sl B w A n c l) :
    Calls Tryd.prog 35 #[.slice A n c] w (ActRet w (setsOf l)) := by
  have hl := h.len
  by_cases h1 : n < 2
  · have hr := Lib.hid (show setsOf l = (zAct, 4) by unfold setsOf; rw [if_pos (.inl (by omega))])
    clear h hl
    go_enter Tryd.func35, Tryd.ntmps35
    go_wp2
    rw [hr.out]
    exact bodyPost_ret (v := .tuple #[actV zAct none 0 none 0, .int .i64 4]) (by simp [results, Tryd.results35, go_sem, actV, zAct]) rfl (ActRet.zero rfl (by (repeat (first | with_reducible exact Up.refl _ | with_reducible refine Up.alloc ?_ _ | with_reducible refine Up.drew ?_ | with_reducible refine Up.drewN ?_ _ | with_reducible refine Up.setCell ?_ (by (try simp) <;> omega) _ | with_reducible assumption | with_reducible refine Up.trans ?_ (by assumption)))))
  · obtain ⟨b, off, rfl, hb⟩ := h.form (by omega)
    have hc := h.cell (i := 0) (by omega)
    have hc1 := h.cell (i := 1) (by omega)
    have hy := h.byte (i := 1)
    obtain ⟨x, hxe⟩ : ∃ x, l.getD 0 0 = x := ⟨_, rfl⟩
    obtain ⟨y, hye⟩ : ∃ y, l.getD 1 0 = y := ⟨_, rfl⟩
    rw [hxe] at hc
    rw [hye] at hc1 hy
    rw [Nat.add_zero] at hc
    have h0 : (1 : Int) < n := by omega
    by_cases g : 2 < y ∨ (y < 2 ∧ 2 < n)
    · have hr := Lib.hid (show setsOf l = (zAct, 4) by unfold setsOf; rw [hye, if_pos (.inr (by omega))])
      clear h hl hxe hye
      rcases g with g | ⟨g, g2⟩
      all_goals
        go_enter Tryd.func35, Tryd.ntmps35
        go_wp2
        rw [hr.out]
        exact bodyPost_ret (v := .tuple #[actV zAct none 0 none 0, .int .i64 4]) (by simp [results, Tryd.results35, go_sem, actV, zAct]) rfl (ActRet.zero rfl (by (repeat (first | with_reducible exact Up.refl _ | with_reducible refine Up.alloc ?_ _ | with_reducible refine Up.drew ?_ | with_reducible refine Up.drewN ?_ _ | with_reducible refine Up.setCell ?_ (by (try simp) <;> omega) _ | with_reducible assumption | with_reducible refine Up.trans ?_ (by assumption)))))
    · have hr := Lib.hid (show setsOf l = partOf ⟨5, 0, y, false, 0, [], []⟩ l 0 by unfold setsOf; rw [hye, if_neg (by omega)])
      have HE := Lib.hid hxe
      have g1 : ¬ 2 < y := by omega
      have g2 : (y < 2 ∧ ¬ 2 < (n : Int)) ∨ ¬ y < 2 := by omega
      clear h hl hxe hye g
      by_cases gx : x = 0
      · subst gx
        have hp := Lib.hid (show partOf ⟨5, 0, y, false, 0, [], []⟩ l 0 = (⟨5, 0, y, false, 0, [], []⟩, 0) by unfold partOf; rw [if_pos HE.out])
        rcases g2 with ⟨g2, g3⟩ | g2
        all_goals
          go_enter Tryd.func35, Tryd.ntmps35
          go_wp2_with fail
          refine (part_yes rfl (by omega) (by simp; omega) ((World.cell?_alloc_lt _ _ _ hb).trans hc)).mono ?_
          rintro e w1 ⟨rfl, hb_w1⟩
          have hu_w1 : Up w w1 := by (repeat (first | with_reducible exact Up.refl _ | with_reducible refine Up.alloc ?_ _ | with_reducible refine Up.drew ?_ | with_reducible refine Up.drewN ?_ _ | with_reducible refine Up.setCell ?_ (by (try simp) <;> omega) _ | with_reducible assumption | with_reducible refine Up.trans ?_ (by assumption)))
          have hz_w1 := Up.size hb_w1
          try simp at hz_w1
          obtain ⟨bd_w1_0, be_w1_0⟩ := hb_w1.at_ (w.heap.size) (by (try simp) <;> omega)
          have zb_w1_0 : w.heap.size < w1.heap.size := by omega
          go_wp2_with fail
          rw [hr.out, hp.out]
          exact bodyPost_ret (v := .tuple #[actV ⟨5, 0, y, false, 0, [], []⟩ none 0 none 0, .int .i64 0]) (by simp [results, Tryd.results35, go_sem, actV, *]) rfl (ActRet.plain rfl (by (repeat (first | with_reducible exact Up.refl _ | with_reducible refine Up.alloc ?_ _ | with_reducible refine Up.drew ?_ | with_reducible refine Up.drewN ?_ _ | with_reducible refine Up.setCell ?_ (by (try simp) <;> omega) _ | with_reducible assumption | with_reducible refine Up.trans ?_ (by assumption)))))
      · have hp := Lib.hid (show partOf ⟨5, 0, y, false, 0, [], []⟩ l 0 = (zAct, 1) by unfold partOf; rw [if_neg (by rw [HE.out]; exact gx)])
        have e0 : (x == 0) = false := by simpa using gx
        clear gx
        rcases g2 with ⟨g2, g3⟩ | g2
        all_goals
          go_enter Tryd.func35, Tryd.ntmps35
          go_wp2_with fail
          refine (part_no rfl (by omega) (by simp; omega) ((World.cell?_alloc_lt _ _ _ hb).trans hc) e0).mono ?_
          rintro e w1 ⟨rfl, hb_w1⟩
          have hu_w1 : Up w w1 := by (repeat (first | with_reducible exact Up.refl _ | with_reducible refine Up.alloc ?_ _ | with_reducible refine Up.drew ?_ | with_reducible refine Up.drewN ?_ _ | with_reducible refine Up.setCell ?_ (by (try simp) <;> omega) _ | with_reducible assumption | with_reducible refine Up.trans ?_ (by assumption)))
          have hz_w1 := Up.size hb_w1
          try simp at hz_w1
          obtain ⟨bd_w1_0, be_w1_0⟩ := hb_w1.at_ (w.heap.size) (by (try simp) <;> omega)
          have zb_w1_0 : w.heap.size < w1.heap.size := by omega
          go_wp2_with fail
          rw [hr.out, hp.out]
          exact bodyPost_ret (v := .tuple #[actV zAct none 0 none 0, .int .i64 1]) (by simp [results, Tryd.results35, go_sem, actV, zAct, *]) rfl (ActRet.zero rfl (by (repeat (first | with_reducible exact Up.refl _ | with_reducible refine Up.alloc ?_ _ | with_reducible refine Up.drew ?_ | with_reducible refine Up.drewN ?_ _ | with_reducible refine Up.setCell ?_ (by (try simp) <;> omega) _ | with_reducible assumption | with_reducible refine Up.trans ?_ (by assumption)))))
end Go.Proofs.YtfambgigdhkiaaaDoor
