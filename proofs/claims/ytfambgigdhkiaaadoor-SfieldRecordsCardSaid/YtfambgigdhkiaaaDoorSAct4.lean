/-
  What sfield's Act makes of a field: Read Partition, Outbound. Condition: write's table lies as the row lists it.
-/
import Derived.Test.YtfambgigdhkiaaaDoorSAct3
import Derived.Deep.RegionWith
namespace Go.Proofs.YtfambgigdhkiaaaDoor
open Go.RowKit
set_option linter.unusedVariables false
set_option linter.unusedSimpArgs false

theorem Sl.norm {B : Nat} {w : World} {A : Option Addr} {n c : Nat} {l : List Int} (h : Sl B w A n c l) : Sl B w A l.length c l := by rw [h.len]; exact h
theorem Sl.set1 {B : Nat} {w : World} {A : Option Addr} {n c : Nat} {l : List Int} (h : Sl B w A n c l) {b : Nat} (hb : b < B) (o : Nat) (v : Value) : Sl B (w.setCell ⟨b, o, none⟩ v) A n c l :=
  h.keep (E := fun k => k = b) (Keep.setCell (E := fun k => k = b) (Keep.refl _ w) (p := ⟨b, o, none⟩) (.inl rfl) v) (fun k hk => by omega)
set_option maxHeartbeats 3200000 in
theorem outs_is {B : Nat} {A : Option Addr} {n c : Nat} {l : List Int} {w : World} (ht : TabW w) (h : Sl B w A n c l) :
    Calls Tryd.prog 37 #[.slice A n c] w (ActRet w (outsOf l)) := by
  have hl := h.len
  by_cases h1 : n < 2
  · have hr := Lib.hid (show outsOf l = (zAct, 4) by unfold outsOf; rw [if_pos (by omega)])
    clear h hl ht
    go_enter Tryd.func37, Tryd.ntmps37
    go_wp2
    rw [hr.out]
    exact bodyPost_ret (v := .tuple #[actV zAct none 0 none 0, .int .i64 4]) (by simp [results, Tryd.results37, go_sem, actV, zAct]) rfl (ActRet.zero rfl (by (repeat (first | with_reducible exact Up.refl _ | with_reducible refine Up.alloc ?_ _ | with_reducible refine Up.drew ?_ | with_reducible refine Up.drewN ?_ _ | with_reducible refine Up.setCell ?_ (by (try simp) <;> omega) _ | with_reducible assumption | with_reducible refine Up.trans ?_ (by assumption)))))
  · have hcut := h.cut (k := 1) (by omega)
    rw [if_neg (by have := h.cap; omega)] at hcut
    obtain ⟨b, off, rfl, hb⟩ := h.form (by omega)
    simp only [Option.map_some, Addr.add] at hcut
    have hc := h.cell (i := 0) (by omega)
    have hc1 := h.cell (i := 1) (by omega)
    obtain ⟨x, hxe⟩ : ∃ x, l.getD 0 0 = x := ⟨_, rfl⟩
    obtain ⟨y, hye⟩ : ∃ y, l.getD 1 0 = y := ⟨_, rfl⟩
    rw [hxe] at hc
    rw [hye] at hc1
    rw [Nat.add_zero] at hc
    have h0 : (1 : Int) < n := by omega
    have hcap := h.cap
    have hn0 : 0 < n := by omega
    have HT := Lib.hid ht
    have HC := Lib.hid hcut
    have HE := Lib.hid hxe
    have HF := Lib.hid hye
    have HL := Lib.hid hl
    clear ht hcut hxe hye hl h
    cases hq : cmdOf y with
    | none =>
      have hr := Lib.hid (show outsOf l = (zAct, 4) by unfold outsOf; rw [HF.out, hq, if_neg (by have := HL.out; omega)])
      have hcm := Lib.hid (cmd_is y)
      rw [hq] at hcm
      go_enter Tryd.func37, Tryd.ntmps37
      go_wp2_with fail
      refine (hcm.out _ (HT.out.up (by (repeat (first | with_reducible exact Up.refl _ | with_reducible refine Up.alloc ?_ _ | with_reducible refine Up.drew ?_ | with_reducible refine Up.drewN ?_ _ | with_reducible refine Up.setCell ?_ (by (try simp) <;> omega) _ | with_reducible assumption | with_reducible refine Up.trans ?_ (by assumption)))))).mono ?_
      rintro e w1 ⟨rfl, hb_w1⟩
      have hu_w1 : Up w w1 := by (repeat (first | with_reducible exact Up.refl _ | with_reducible refine Up.alloc ?_ _ | with_reducible refine Up.drew ?_ | with_reducible refine Up.drewN ?_ _ | with_reducible refine Up.setCell ?_ (by (try simp) <;> omega) _ | with_reducible assumption | with_reducible refine Up.trans ?_ (by assumption)))
      have hz_w1 := Up.size hb_w1
      try simp at hz_w1
      obtain ⟨bd_w1_0, be_w1_0⟩ := hb_w1.at_ (w.heap.size) (by (try simp) <;> omega)
      have zb_w1_0 : w.heap.size < w1.heap.size := by omega
      go_wp2_with fail
      rw [hr.out]
      exact bodyPost_ret (v := .tuple #[actV zAct none 0 none 0, .int .i64 4]) (by simp [results, Tryd.results37, go_sem, actV, zAct, *]) rfl (ActRet.zero rfl (by (repeat (first | with_reducible exact Up.refl _ | with_reducible refine Up.alloc ?_ _ | with_reducible refine Up.drew ?_ | with_reducible refine Up.drewN ?_ _ | with_reducible refine Up.setCell ?_ (by (try simp) <;> omega) _ | with_reducible assumption | with_reducible refine Up.trans ?_ (by assumption)))))
    | some q =>
      have hcm := Lib.hid (cmd_is y)
      rw [hq] at hcm
      simp only [Option.getD_some, Option.isSome_some] at hcm
      by_cases g : q ≤ 4
      · have hr := Lib.hid (show outsOf l = partOf ⟨9, 0, 0, false, 0, [], l.drop 1⟩ l 0 by unfold outsOf; rw [HF.out, hq, if_neg (by have := HL.out; omega)]; simp [g])
        have hlen := Lib.hid (show (l.drop 1).length = n - 1 by rw [List.length_drop, HL.out])
        have g' : ((q : Nat) : Int) ≤ 4 := by omega
        clear hq g
        by_cases gx : x = 0
        · subst gx
          have hp := Lib.hid (show partOf ⟨9, 0, 0, false, 0, [], l.drop 1⟩ l 0 = (⟨9, 0, 0, false, 0, [], l.drop 1⟩, 0) by unfold partOf; rw [if_pos HE.out])
          go_enter Tryd.func37, Tryd.ntmps37
          go_wp2_with fail
          refine (hcm.out _ (HT.out.up (by (repeat (first | with_reducible exact Up.refl _ | with_reducible refine Up.alloc ?_ _ | with_reducible refine Up.drew ?_ | with_reducible refine Up.drewN ?_ _ | with_reducible refine Up.setCell ?_ (by (try simp) <;> omega) _ | with_reducible assumption | with_reducible refine Up.trans ?_ (by assumption)))))).mono ?_
          rintro e w1 ⟨rfl, hb_w1⟩
          have hu_w1 : Up w w1 := by (repeat (first | with_reducible exact Up.refl _ | with_reducible refine Up.alloc ?_ _ | with_reducible refine Up.drew ?_ | with_reducible refine Up.drewN ?_ _ | with_reducible refine Up.setCell ?_ (by (try simp) <;> omega) _ | with_reducible assumption | with_reducible refine Up.trans ?_ (by assumption)))
          have hz_w1 := Up.size hb_w1
          try simp at hz_w1
          obtain ⟨bd_w1_0, be_w1_0⟩ := hb_w1.at_ (w.heap.size) (by (try simp) <;> omega)
          have zb_w1_0 : w.heap.size < w1.heap.size := by omega
          go_wp2_with fail
          refine (clone_sl (HC.out.up (show Up w w1 by (repeat (first | with_reducible exact Up.refl _ | with_reducible refine Up.alloc ?_ _ | with_reducible refine Up.drew ?_ | with_reducible refine Up.drewN ?_ _ | with_reducible refine Up.setCell ?_ (by (try simp) <;> omega) _ | with_reducible assumption | with_reducible refine Up.trans ?_ (by assumption)))))).mono ?_
          rintro e w2 ⟨A2, c2, rfl, hs2, hb_w2⟩
          have hu_w2 : Up w1 w2 := by (repeat (first | with_reducible exact Up.refl _ | with_reducible refine Up.alloc ?_ _ | with_reducible refine Up.drew ?_ | with_reducible refine Up.drewN ?_ _ | with_reducible refine Up.setCell ?_ (by (try simp) <;> omega) _ | with_reducible assumption | with_reducible refine Up.trans ?_ (by assumption)))
          have hz_w2 := Up.size hb_w2
          try simp at hz_w2
          obtain ⟨bc_w2_0, bf_w2_0⟩ := hu_w2.at_ (w.heap.size) (by omega)
          have zb_w2_0 : w.heap.size < w2.heap.size := by omega
          go_wp2_with fail
          refine (part_yes rfl hn0 (by omega) (((hu_w1.trans hu_w2).at_ b hb).1 off |>.trans hc)).mono ?_
          rintro e w3 ⟨rfl, hb_w3⟩
          have hu_w3 : Up w2 w3 := by (repeat (first | with_reducible exact Up.refl _ | with_reducible refine Up.alloc ?_ _ | with_reducible refine Up.drew ?_ | with_reducible refine Up.drewN ?_ _ | with_reducible refine Up.setCell ?_ (by (try simp) <;> omega) _ | with_reducible assumption | with_reducible refine Up.trans ?_ (by assumption)))
          have hz_w3 := Up.size hb_w3
          try simp at hz_w3
          obtain ⟨bc_w3_0, bf_w3_0⟩ := hu_w3.at_ (w.heap.size) (by omega)
          have zb_w3_0 : w.heap.size < w3.heap.size := by omega
          go_wp2_with fail
          rw [hr.out, hp.out]
          refine bodyPost_ret (v := .tuple #[actV ⟨9, 0, 0, false, 0, [], l.drop 1⟩ none 0 A2 c2, .int .i64 0]) (by simp [results, Tryd.results37, go_sem, actV, zAct, HL.out, bc_w3_0, bc_w2_0, bd_w1_0]) rfl ?_
          refine ⟨none, 0, A2, c2, rfl, Sl.none_, Sl.low (B := w1.heap.size) ?_ (by omega), by (repeat (first | with_reducible exact Up.refl _ | with_reducible refine Up.alloc ?_ _ | with_reducible refine Up.drew ?_ | with_reducible refine Up.drewN ?_ _ | with_reducible refine Up.setCell ?_ (by (try simp) <;> omega) _ | with_reducible assumption | with_reducible refine Up.trans ?_ (by assumption)))⟩
          repeat with_reducible refine Sl.set1 ?_ (by omega) _ _
          exact hs2.norm.up hu_w3
        · have hp := Lib.hid (show partOf ⟨9, 0, 0, false, 0, [], l.drop 1⟩ l 0 = (zAct, 1) by unfold partOf; rw [if_neg (by rw [HE.out]; exact gx)])
          have e0 : (x == 0) = false := by simpa using gx
          clear gx
          go_enter Tryd.func37, Tryd.ntmps37
          go_wp2_with fail
          refine (hcm.out _ (HT.out.up (by (repeat (first | with_reducible exact Up.refl _ | with_reducible refine Up.alloc ?_ _ | with_reducible refine Up.drew ?_ | with_reducible refine Up.drewN ?_ _ | with_reducible refine Up.setCell ?_ (by (try simp) <;> omega) _ | with_reducible assumption | with_reducible refine Up.trans ?_ (by assumption)))))).mono ?_
          rintro e w1 ⟨rfl, hb_w1⟩
          have hu_w1 : Up w w1 := by (repeat (first | with_reducible exact Up.refl _ | with_reducible refine Up.alloc ?_ _ | with_reducible refine Up.drew ?_ | with_reducible refine Up.drewN ?_ _ | with_reducible refine Up.setCell ?_ (by (try simp) <;> omega) _ | with_reducible assumption | with_reducible refine Up.trans ?_ (by assumption)))
          have hz_w1 := Up.size hb_w1
          try simp at hz_w1
          obtain ⟨bd_w1_0, be_w1_0⟩ := hb_w1.at_ (w.heap.size) (by (try simp) <;> omega)
          have zb_w1_0 : w.heap.size < w1.heap.size := by omega
          go_wp2_with fail
          refine (clone_sl (HC.out.up (show Up w w1 by (repeat (first | with_reducible exact Up.refl _ | with_reducible refine Up.alloc ?_ _ | with_reducible refine Up.drew ?_ | with_reducible refine Up.drewN ?_ _ | with_reducible refine Up.setCell ?_ (by (try simp) <;> omega) _ | with_reducible assumption | with_reducible refine Up.trans ?_ (by assumption)))))).mono ?_
          rintro e w2 ⟨A2, c2, rfl, hs2, hb_w2⟩
          have hu_w2 : Up w1 w2 := by (repeat (first | with_reducible exact Up.refl _ | with_reducible refine Up.alloc ?_ _ | with_reducible refine Up.drew ?_ | with_reducible refine Up.drewN ?_ _ | with_reducible refine Up.setCell ?_ (by (try simp) <;> omega) _ | with_reducible assumption | with_reducible refine Up.trans ?_ (by assumption)))
          have hz_w2 := Up.size hb_w2
          try simp at hz_w2
          obtain ⟨bc_w2_0, bf_w2_0⟩ := hu_w2.at_ (w.heap.size) (by omega)
          have zb_w2_0 : w.heap.size < w2.heap.size := by omega
          go_wp2_with fail
          refine (part_no rfl hn0 (by omega) (((hu_w1.trans hu_w2).at_ b hb).1 off |>.trans hc) e0).mono ?_
          rintro e w3 ⟨rfl, hb_w3⟩
          have hu_w3 : Up w2 w3 := by (repeat (first | with_reducible exact Up.refl _ | with_reducible refine Up.alloc ?_ _ | with_reducible refine Up.drew ?_ | with_reducible refine Up.drewN ?_ _ | with_reducible refine Up.setCell ?_ (by (try simp) <;> omega) _ | with_reducible assumption | with_reducible refine Up.trans ?_ (by assumption)))
          have hz_w3 := Up.size hb_w3
          try simp at hz_w3
          obtain ⟨bc_w3_0, bf_w3_0⟩ := hu_w3.at_ (w.heap.size) (by omega)
          have zb_w3_0 : w.heap.size < w3.heap.size := by omega
          go_wp2_with fail
          rw [hr.out, hp.out]
          refine bodyPost_ret (v := .tuple #[actV zAct none 0 none 0, .int .i64 1]) (by simp [results, Tryd.results37, go_sem, actV, zAct, HL.out, bc_w3_0, bc_w2_0, bd_w1_0]) rfl ?_
          exact ActRet.zero rfl (by (repeat (first | with_reducible exact Up.refl _ | with_reducible refine Up.alloc ?_ _ | with_reducible refine Up.drew ?_ | with_reducible refine Up.drewN ?_ _ | with_reducible refine Up.setCell ?_ (by (try simp) <;> omega) _ | with_reducible assumption | with_reducible refine Up.trans ?_ (by assumption))))
      · have hr := Lib.hid (show outsOf l = (zAct, 4) by unfold outsOf; rw [HF.out, hq, if_neg (by have := HL.out; omega)]; simp [g])
        have g' : ¬ ((q : Nat) : Int) ≤ 4 := by omega
        clear hq g
        go_enter Tryd.func37, Tryd.ntmps37
        go_wp2_with fail
        refine (hcm.out _ (HT.out.up (by (repeat (first | with_reducible exact Up.refl _ | with_reducible refine Up.alloc ?_ _ | with_reducible refine Up.drew ?_ | with_reducible refine Up.drewN ?_ _ | with_reducible refine Up.setCell ?_ (by (try simp) <;> omega) _ | with_reducible assumption | with_reducible refine Up.trans ?_ (by assumption)))))).mono ?_
        rintro e w1 ⟨rfl, hb_w1⟩
        have hu_w1 : Up w w1 := by (repeat (first | with_reducible exact Up.refl _ | with_reducible refine Up.alloc ?_ _ | with_reducible refine Up.drew ?_ | with_reducible refine Up.drewN ?_ _ | with_reducible refine Up.setCell ?_ (by (try simp) <;> omega) _ | with_reducible assumption | with_reducible refine Up.trans ?_ (by assumption)))
        have hz_w1 := Up.size hb_w1
        try simp at hz_w1
        obtain ⟨bd_w1_0, be_w1_0⟩ := hb_w1.at_ (w.heap.size) (by (try simp) <;> omega)
        have zb_w1_0 : w.heap.size < w1.heap.size := by omega
        go_wp2_with fail
        rw [hr.out]
        exact bodyPost_ret (v := .tuple #[actV zAct none 0 none 0, .int .i64 4]) (by simp [results, Tryd.results37, go_sem, actV, zAct, *]) rfl (ActRet.zero rfl (by (repeat (first | with_reducible exact Up.refl _ | with_reducible refine Up.alloc ?_ _ | with_reducible refine Up.drew ?_ | with_reducible refine Up.drewN ?_ _ | with_reducible refine Up.setCell ?_ (by (try simp) <;> omega) _ | with_reducible assumption | with_reducible refine Up.trans ?_ (by assumption)))))
end Go.Proofs.YtfambgigdhkiaaaDoor
