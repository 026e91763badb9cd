/-
  What sfield's Act makes of any field. Condition: write's table lies as the row lists it.
-/
import Derived.Test.YtfambgigdhkiaaaDoorSAct6
namespace Go.Proofs.YtfambgigdhkiaaaDoor
open Go.RowKit
set_option linter.unusedVariables false
set_option linter.unusedSimpArgs false

theorem cmdOf_two : cmdOf 2 = some 5 := by decide +kernel
theorem cmdOf_three : cmdOf 3 = some 0 := by decide +kernel
set_option maxHeartbeats 1600000 in
theorem fread_is {B : Nat} {A : Option Addr} {n c : Nat} {l : List Int} {w : World} (ht : TabW w) (h : Sl B w A n c l) :
    Calls Tryd.prog 33 #[.slice A n c] w (ActRet w (readsOf l)) := by
  have hl := h.len
  by_cases h1 : n < 2
  · have hr := Lib.hid (show readsOf l = (zAct, 4) by unfold readsOf; rw [if_pos (by omega)])
    clear h hl ht
    go_enter Tryd.func33, Tryd.ntmps33
    go_wp2
    rw [hr.out]
    exact bodyPost_ret (v := .tuple #[actV zAct none 0 none 0, .int .i64 4]) (by simp [results, Tryd.results33, go_sem, actV, zAct]) rfl (ActRet.zero rfl (by (repeat (first | with_reducible exact Up.refl _ | with_reducible refine Up.alloc ?_ _ | with_reducible refine Up.drew ?_ | with_reducible refine Up.drewN ?_ _ | with_reducible refine Up.setCell ?_ (by (try simp) <;> omega) _ | with_reducible assumption | with_reducible refine Up.trans ?_ (by assumption)))))
  · obtain ⟨b, off, rfl, hb⟩ := h.form (by omega)
    have hc := h.cell (i := 0) (by omega)
    have hc1 := h.cell (i := 1) (by omega)
    rw [Nat.add_zero] at hc
    have hcm := Lib.hid (fun w h => cmd_is (l.getD 1 0) w h)
    have HT := Lib.hid ht
    have hlen : ¬ l.length < 2 := by omega
    by_cases y2 : l.getD 1 0 = 2
    · by_cases n2 : n = 2
      · have e : readsOf l = if l.getD 0 0 = 255 then (⟨1, 0, 0, false, 0, [], []⟩, 0) else (zAct, 1) := by
          unfold readsOf partOf
          rw [if_neg hlen, if_pos y2, if_pos (by omega)]
        rw [e]
        exact rd_query HT h hcm hb hc hc1 y2 n2
      · have e : readsOf l = (zAct, 4) := by
          unfold readsOf
          rw [if_neg hlen, if_pos y2, if_neg (by omega)]
        rw [e]
        refine rd_none HT h hcm hb hc hc1 (by omega) (.inr ⟨by simp only [y2]; rfl, by simp; omega⟩) (.inl (by simp only [y2]; rfl)) (.inr (.inr ⟨by rw [y2, cmdOf_two]; rfl, by rw [y2, cmdOf_two]; decide, by rw [y2, cmdOf_two]; decide, by simp; omega⟩))
    · by_cases y3 : l.getD 1 0 = 3
      · have h4 : (cmdOf (l.getD 1 0)).isSome = true ∧ (5 ≤ (((cmdOf (l.getD 1 0)).getD 0 : Nat) : Int) → ¬ (((cmdOf (l.getD 1 0)).getD 0 : Nat) : Int) ≤ 7) := by
          rw [y3, cmdOf_three]
          exact ⟨rfl, by decide⟩
        by_cases n3 : 3 ≤ n
        · have hc2 := h.cell (i := 2) (by omega)
          by_cases hz : l.getD 2 0 = 0 ∨ l.getD 2 0 = 64 ∨ l.getD 2 0 = 128
          · have e : readsOf l = if l.getD 0 0 = 255 then (⟨2, 0, 0, false, l.getD 2 0, l.drop 3, []⟩, 0) else (zAct, 1) := by
              unfold readsOf partOf
              rw [if_neg hlen, if_neg y2, if_pos y3, if_pos ⟨by omega, hz⟩]
            rw [e]
            exact rd_list HT h hcm hb hc hc1 n3 y3 hc2 hz
          · have e : readsOf l = (zAct, 4) := by
              unfold readsOf
              rw [if_neg hlen, if_neg y2, if_pos y3, if_neg (fun hh => hz hh.2)]
            rw [e]
            refine rd_none HT h hcm hb hc hc1 (by omega) (.inl (by simpa using y2)) (.inr (.inr ⟨by simp only [y3]; rfl, n3, _, hc2, beq_eq_false_iff_ne.2 (fun e => hz (.inl e)), beq_eq_false_iff_ne.2 (fun e => hz (.inr (.inl e))), beq_eq_false_iff_ne.2 (fun e => hz (.inr (.inr e)))⟩)) (.inr (.inl h4))
        · have e : readsOf l = (zAct, 4) := by
            unfold readsOf
            rw [if_neg hlen, if_neg y2, if_pos y3, if_neg (fun hh => by have := hh.1; omega)]
          rw [e]
          exact rd_none HT h hcm hb hc hc1 (by omega) (.inl (by simpa using y2)) (.inr (.inl ⟨by simp only [y3]; rfl, by omega⟩)) (.inr (.inl h4))
      · cases hq : cmdOf (l.getD 1 0) with
        | none =>
          have e : readsOf l = (zAct, 4) := by
            unfold readsOf
            rw [if_neg hlen, if_neg y2, if_neg y3, hq]
          rw [e]
          exact rd_none HT h hcm hb hc hc1 (by omega) (.inl (by simpa using y2)) (.inl (by simpa using y3)) (.inl (by rw [hq]; rfl))
        | some k =>
          by_cases g : 5 ≤ k ∧ k ≤ 7
          · by_cases n2 : n = 2
            · have e : readsOf l = if l.getD 0 0 = 0 then (⟨3, (k : Int), 0, false, 0, [], []⟩, 0) else (zAct, 1) := by
                unfold readsOf partOf
                rw [if_neg hlen, if_neg y2, if_neg y3, hq]
                exact if_pos ⟨g.1, g.2, by omega⟩
              rw [e]
              rw [hq] at hcm
              exact rd_read HT h hcm hb hc hc1 n2 (by simpa using y2) (by simpa using y3) rfl (by simp; omega)
            · have e : readsOf l = (zAct, 4) := by
                unfold readsOf
                rw [if_neg hlen, if_neg y2, if_neg y3, hq]
                exact if_neg (fun hh => by have := hh.2.2; omega)
              rw [e]
              refine rd_none HT h hcm hb hc hc1 (by omega) (.inl (by simpa using y2)) (.inl (by simpa using y3)) (.inr (.inr ⟨by rw [hq]; rfl, by rw [hq]; simp; omega, by rw [hq]; simp; omega, by simp; omega⟩))
          · have e : readsOf l = (zAct, 4) := by
              unfold readsOf
              rw [if_neg hlen, if_neg y2, if_neg y3, hq]
              exact if_neg (fun hh => g ⟨hh.1, hh.2.1⟩)
            rw [e]
            refine rd_none HT h hcm hb hc hc1 (by omega) (.inl (by simpa using y2)) (.inl (by simpa using y3)) (.inr (.inl ⟨by rw [hq]; rfl, by rw [hq]; simp; omega⟩))
set_option maxHeartbeats 6400000 in
theorem act_is {B : Nat} {A : Option Addr} {n c : Nat} {l : List Int} {id : Int} {w : World} (ht : TabW w) (h : Sl B w A n c l) :
    Calls Tryd.prog 20 #[.agg #[.int .u8 id, .slice A n c]] w (ActRet w (actOf id l)) := by
  have HS := Lib.hid h
  have HT := Lib.hid ht
  clear h ht
  by_cases i1 : id = 1
  · subst i1
    obtain ⟨r, hr⟩ : ∃ r, actOf 1 l = r := ⟨_, rfl⟩
    rw [hr]
    have hv : r = readsOf l := hr.symm
    have HR := Lib.hid hv
    clear hr hv
    go_enter Tryd.func20, Tryd.ntmps20
    go_wp2_with fail
    refine Calls.mono (R := ActRet _ (readsOf l)) (fread_is (HT.out.up (by (repeat (first | with_reducible exact Up.refl _ | with_reducible refine Up.alloc ?_ _ | with_reducible refine Up.drew ?_ | with_reducible refine Up.drewN ?_ _ | with_reducible refine Up.setCell ?_ (by (try simp) <;> omega) _ | with_reducible assumption | with_reducible refine Up.trans ?_ (by assumption))))) (HS.out.up (by (repeat (first | with_reducible exact Up.refl _ | with_reducible refine Up.alloc ?_ _ | with_reducible refine Up.drew ?_ | with_reducible refine Up.drewN ?_ _ | with_reducible refine Up.setCell ?_ (by (try simp) <;> omega) _ | with_reducible assumption | with_reducible refine Up.trans ?_ (by assumption)))))) ?_
    rw [← HR.out]
    rintro e w1 ⟨A1, c1, A2, c2, rfl, s1, s2, hb_w1⟩
    obtain ⟨ca, da⟩ := hb_w1.at_ w.heap.size (by (try simp) <;> omega)
    obtain ⟨cb, db⟩ := hb_w1.at_ (w.heap.size + 1) (by (try simp) <;> omega)
    have hz := hb_w1.size
    have u1 : Up w w1 := by (repeat (first | with_reducible exact Up.refl _ | with_reducible refine Up.alloc ?_ _ | with_reducible refine Up.drew ?_ | with_reducible refine Up.drewN ?_ _ | with_reducible refine Up.setCell ?_ (by (try simp) <;> omega) _ | with_reducible assumption | with_reducible refine Up.trans ?_ (by assumption)))
    simp at hz s1 s2
    unfold actV
    go_wp2
    refine bodyPost_ret (v := .tuple #[actV r.1 A1 c1 A2 c2, .int .i64 r.2]) (by simp [results, Tryd.results20, go_sem, actV, ca, cb]) rfl ⟨A1, c1, A2, c2, rfl, Sl.low (B := w.heap.size + 1 + 1) ?_ (by omega), Sl.low (B := w.heap.size + 1 + 1) ?_ (by omega), by (repeat (first | with_reducible exact Up.refl _ | with_reducible refine Up.alloc ?_ _ | with_reducible refine Up.drew ?_ | with_reducible refine Up.drewN ?_ _ | with_reducible refine Up.setCell ?_ (by (try simp) <;> omega) _ | with_reducible assumption | with_reducible refine Up.trans ?_ (by assumption)))⟩
    · repeat with_reducible refine Sl.set1 ?_ (by omega) _ _
      exact s1
    · repeat with_reducible refine Sl.set1 ?_ (by omega) _ _
      exact s2
  by_cases i3 : id = 3
  · subst i3
    obtain ⟨r, hr⟩ : ∃ r, actOf 3 l = r := ⟨_, rfl⟩
    rw [hr]
    have hv : r = erasesOf l := hr.symm
    have HR := Lib.hid hv
    clear hr hv
    go_enter Tryd.func20, Tryd.ntmps20
    go_wp2_with fail
    refine Calls.mono (R := ActRet _ (erasesOf l)) (erases_is (HS.out.up (by (repeat (first | with_reducible exact Up.refl _ | with_reducible refine Up.alloc ?_ _ | with_reducible refine Up.drew ?_ | with_reducible refine Up.drewN ?_ _ | with_reducible refine Up.setCell ?_ (by (try simp) <;> omega) _ | with_reducible assumption | with_reducible refine Up.trans ?_ (by assumption)))))) ?_
    rw [← HR.out]
    rintro e w1 ⟨A1, c1, A2, c2, rfl, s1, s2, hb_w1⟩
    obtain ⟨ca, da⟩ := hb_w1.at_ w.heap.size (by (try simp) <;> omega)
    obtain ⟨cb, db⟩ := hb_w1.at_ (w.heap.size + 1) (by (try simp) <;> omega)
    have hz := hb_w1.size
    have u1 : Up w w1 := by (repeat (first | with_reducible exact Up.refl _ | with_reducible refine Up.alloc ?_ _ | with_reducible refine Up.drew ?_ | with_reducible refine Up.drewN ?_ _ | with_reducible refine Up.setCell ?_ (by (try simp) <;> omega) _ | with_reducible assumption | with_reducible refine Up.trans ?_ (by assumption)))
    simp at hz s1 s2
    unfold actV
    go_wp2
    refine bodyPost_ret (v := .tuple #[actV r.1 A1 c1 A2 c2, .int .i64 r.2]) (by simp [results, Tryd.results20, go_sem, actV, ca, cb]) rfl ⟨A1, c1, A2, c2, rfl, Sl.low (B := w.heap.size + 1 + 1) ?_ (by omega), Sl.low (B := w.heap.size + 1 + 1) ?_ (by omega), by (repeat (first | with_reducible exact Up.refl _ | with_reducible refine Up.alloc ?_ _ | with_reducible refine Up.drew ?_ | with_reducible refine Up.drewN ?_ _ | with_reducible refine Up.setCell ?_ (by (try simp) <;> omega) _ | with_reducible assumption | with_reducible refine Up.trans ?_ (by assumption)))⟩
    · repeat with_reducible refine Sl.set1 ?_ (by omega) _ _
      exact s1
    · repeat with_reducible refine Sl.set1 ?_ (by omega) _ _
      exact s2
  by_cases i9 : id = 9
  · subst i9
    obtain ⟨r, hr⟩ : ∃ r, actOf 9 l = r := ⟨_, rfl⟩
    rw [hr]
    have hv : r = setsOf l := hr.symm
    have HR := Lib.hid hv
    clear hr hv
    go_enter Tryd.func20, Tryd.ntmps20
    go_wp2_with fail
    refine Calls.mono (R := ActRet _ (setsOf l)) (sets_is (HS.out.up (by (repeat (first | with_reducible exact Up.refl _ | with_reducible refine Up.alloc ?_ _ | with_reducible refine Up.drew ?_ | with_reducible refine Up.drewN ?_ _ | with_reducible refine Up.setCell ?_ (by (try simp) <;> omega) _ | with_reducible assumption | with_reducible refine Up.trans ?_ (by assumption)))))) ?_
    rw [← HR.out]
    rintro e w1 ⟨A1, c1, A2, c2, rfl, s1, s2, hb_w1⟩
    obtain ⟨ca, da⟩ := hb_w1.at_ w.heap.size (by (try simp) <;> omega)
    obtain ⟨cb, db⟩ := hb_w1.at_ (w.heap.size + 1) (by (try simp) <;> omega)
    have hz := hb_w1.size
    have u1 : Up w w1 := by (repeat (first | with_reducible exact Up.refl _ | with_reducible refine Up.alloc ?_ _ | with_reducible refine Up.drew ?_ | with_reducible refine Up.drewN ?_ _ | with_reducible refine Up.setCell ?_ (by (try simp) <;> omega) _ | with_reducible assumption | with_reducible refine Up.trans ?_ (by assumption)))
    simp at hz s1 s2
    unfold actV
    go_wp2
    refine bodyPost_ret (v := .tuple #[actV r.1 A1 c1 A2 c2, .int .i64 r.2]) (by simp [results, Tryd.results20, go_sem, actV, ca, cb]) rfl ⟨A1, c1, A2, c2, rfl, Sl.low (B := w.heap.size + 1 + 1) ?_ (by omega), Sl.low (B := w.heap.size + 1 + 1) ?_ (by omega), by (repeat (first | with_reducible exact Up.refl _ | with_reducible refine Up.alloc ?_ _ | with_reducible refine Up.drew ?_ | with_reducible refine Up.drewN ?_ _ | with_reducible refine Up.setCell ?_ (by (try simp) <;> omega) _ | with_reducible assumption | with_reducible refine Up.trans ?_ (by assumption)))⟩
    · repeat with_reducible refine Sl.set1 ?_ (by omega) _ _
      exact s1
    · repeat with_reducible refine Sl.set1 ?_ (by omega) _ _
      exact s2
  by_cases i12 : id = 12
  · subst i12
    obtain ⟨r, hr⟩ : ∃ r, actOf 12 l = r := ⟨_, rfl⟩
    rw [hr]
    have hv : r = partsOf 6 l := hr.symm
    have HR := Lib.hid hv
    clear hr hv
    go_enter Tryd.func20, Tryd.ntmps20
    go_wp2_with fail
    refine Calls.mono (R := ActRet _ (partsOf 6 l)) (parts_is (.inl rfl) (HS.out.up (by (repeat (first | with_reducible exact Up.refl _ | with_reducible refine Up.alloc ?_ _ | with_reducible refine Up.drew ?_ | with_reducible refine Up.drewN ?_ _ | with_reducible refine Up.setCell ?_ (by (try simp) <;> omega) _ | with_reducible assumption | with_reducible refine Up.trans ?_ (by assumption)))))) ?_
    rw [← HR.out]
    rintro e w1 ⟨A1, c1, A2, c2, rfl, s1, s2, hb_w1⟩
    obtain ⟨ca, da⟩ := hb_w1.at_ w.heap.size (by (try simp) <;> omega)
    obtain ⟨cb, db⟩ := hb_w1.at_ (w.heap.size + 1) (by (try simp) <;> omega)
    have hz := hb_w1.size
    have u1 : Up w w1 := by (repeat (first | with_reducible exact Up.refl _ | with_reducible refine Up.alloc ?_ _ | with_reducible refine Up.drew ?_ | with_reducible refine Up.drewN ?_ _ | with_reducible refine Up.setCell ?_ (by (try simp) <;> omega) _ | with_reducible assumption | with_reducible refine Up.trans ?_ (by assumption)))
    simp at hz s1 s2
    unfold actV
    go_wp2
    refine bodyPost_ret (v := .tuple #[actV r.1 A1 c1 A2 c2, .int .i64 r.2]) (by simp [results, Tryd.results20, go_sem, actV, ca, cb]) rfl ⟨A1, c1, A2, c2, rfl, Sl.low (B := w.heap.size + 1 + 1) ?_ (by omega), Sl.low (B := w.heap.size + 1 + 1) ?_ (by omega), by (repeat (first | with_reducible exact Up.refl _ | with_reducible refine Up.alloc ?_ _ | with_reducible refine Up.drew ?_ | with_reducible refine Up.drewN ?_ _ | with_reducible refine Up.setCell ?_ (by (try simp) <;> omega) _ | with_reducible assumption | with_reducible refine Up.trans ?_ (by assumption)))⟩
    · repeat with_reducible refine Sl.set1 ?_ (by omega) _ _
      exact s1
    · repeat with_reducible refine Sl.set1 ?_ (by omega) _ _
      exact s2
  by_cases i13 : id = 13
  · subst i13
    obtain ⟨r, hr⟩ : ∃ r, actOf 13 l = r := ⟨_, rfl⟩
    rw [hr]
    have hv : r = partsOf 7 l := hr.symm
    have HR := Lib.hid hv
    clear hr hv
    go_enter Tryd.func20, Tryd.ntmps20
    go_wp2_with fail
    refine Calls.mono (R := ActRet _ (partsOf 7 l)) (parts_is (.inr (.inl rfl)) (HS.out.up (by (repeat (first | with_reducible exact Up.refl _ | with_reducible refine Up.alloc ?_ _ | with_reducible refine Up.drew ?_ | with_reducible refine Up.drewN ?_ _ | with_reducible refine Up.setCell ?_ (by (try simp) <;> omega) _ | with_reducible assumption | with_reducible refine Up.trans ?_ (by assumption)))))) ?_
    rw [← HR.out]
    rintro e w1 ⟨A1, c1, A2, c2, rfl, s1, s2, hb_w1⟩
    obtain ⟨ca, da⟩ := hb_w1.at_ w.heap.size (by (try simp) <;> omega)
    obtain ⟨cb, db⟩ := hb_w1.at_ (w.heap.size + 1) (by (try simp) <;> omega)
    have hz := hb_w1.size
    have u1 : Up w w1 := by (repeat (first | with_reducible exact Up.refl _ | with_reducible refine Up.alloc ?_ _ | with_reducible refine Up.drew ?_ | with_reducible refine Up.drewN ?_ _ | with_reducible refine Up.setCell ?_ (by (try simp) <;> omega) _ | with_reducible assumption | with_reducible refine Up.trans ?_ (by assumption)))
    simp at hz s1 s2
    unfold actV
    go_wp2
    refine bodyPost_ret (v := .tuple #[actV r.1 A1 c1 A2 c2, .int .i64 r.2]) (by simp [results, Tryd.results20, go_sem, actV, ca, cb]) rfl ⟨A1, c1, A2, c2, rfl, Sl.low (B := w.heap.size + 1 + 1) ?_ (by omega), Sl.low (B := w.heap.size + 1 + 1) ?_ (by omega), by (repeat (first | with_reducible exact Up.refl _ | with_reducible refine Up.alloc ?_ _ | with_reducible refine Up.drew ?_ | with_reducible refine Up.drewN ?_ _ | with_reducible refine Up.setCell ?_ (by (try simp) <;> omega) _ | with_reducible assumption | with_reducible refine Up.trans ?_ (by assumption)))⟩
    · repeat with_reducible refine Sl.set1 ?_ (by omega) _ _
      exact s1
    · repeat with_reducible refine Sl.set1 ?_ (by omega) _ _
      exact s2
  by_cases i14 : id = 14
  · subst i14
    obtain ⟨r, hr⟩ : ∃ r, actOf 14 l = r := ⟨_, rfl⟩
    rw [hr]
    have hv : r = partsOf 8 l := hr.symm
    have HR := Lib.hid hv
    clear hr hv
    go_enter Tryd.func20, Tryd.ntmps20
    go_wp2_with fail
    refine Calls.mono (R := ActRet _ (partsOf 8 l)) (parts_is (.inr (.inr rfl)) (HS.out.up (by (repeat (first | with_reducible exact Up.refl _ | with_reducible refine Up.alloc ?_ _ | with_reducible refine Up.drew ?_ | with_reducible refine Up.drewN ?_ _ | with_reducible refine Up.setCell ?_ (by (try simp) <;> omega) _ | with_reducible assumption | with_reducible refine Up.trans ?_ (by assumption)))))) ?_
    rw [← HR.out]
    rintro e w1 ⟨A1, c1, A2, c2, rfl, s1, s2, hb_w1⟩
    obtain ⟨ca, da⟩ := hb_w1.at_ w.heap.size (by (try simp) <;> omega)
    obtain ⟨cb, db⟩ := hb_w1.at_ (w.heap.size + 1) (by (try simp) <;> omega)
    have hz := hb_w1.size
    have u1 : Up w w1 := by (repeat (first | with_reducible exact Up.refl _ | with_reducible refine Up.alloc ?_ _ | with_reducible refine Up.drew ?_ | with_reducible refine Up.drewN ?_ _ | with_reducible refine Up.setCell ?_ (by (try simp) <;> omega) _ | with_reducible assumption | with_reducible refine Up.trans ?_ (by assumption)))
    simp at hz s1 s2
    unfold actV
    go_wp2
    refine bodyPost_ret (v := .tuple #[actV r.1 A1 c1 A2 c2, .int .i64 r.2]) (by simp [results, Tryd.results20, go_sem, actV, ca, cb]) rfl ⟨A1, c1, A2, c2, rfl, Sl.low (B := w.heap.size + 1 + 1) ?_ (by omega), Sl.low (B := w.heap.size + 1 + 1) ?_ (by omega), by (repeat (first | with_reducible exact Up.refl _ | with_reducible refine Up.alloc ?_ _ | with_reducible refine Up.drew ?_ | with_reducible refine Up.drewN ?_ _ | with_reducible refine Up.setCell ?_ (by (try simp) <;> omega) _ | with_reducible assumption | with_reducible refine Up.trans ?_ (by assumption)))⟩
    · repeat with_reducible refine Sl.set1 ?_ (by omega) _ _
      exact s1
    · repeat with_reducible refine Sl.set1 ?_ (by omega) _ _
      exact s2
  by_cases i64 : id = 64
  · subst i64
    obtain ⟨r, hr⟩ : ∃ r, actOf 64 l = r := ⟨_, rfl⟩
    rw [hr]
    have hv : r = outsOf l := hr.symm
    have HR := Lib.hid hv
    clear hr hv
    go_enter Tryd.func20, Tryd.ntmps20
    go_wp2_with fail
    refine Calls.mono (R := ActRet _ (outsOf l)) (outs_is (HT.out.up (by (repeat (first | with_reducible exact Up.refl _ | with_reducible refine Up.alloc ?_ _ | with_reducible refine Up.drew ?_ | with_reducible refine Up.drewN ?_ _ | with_reducible refine Up.setCell ?_ (by (try simp) <;> omega) _ | with_reducible assumption | with_reducible refine Up.trans ?_ (by assumption))))) (HS.out.up (by (repeat (first | with_reducible exact Up.refl _ | with_reducible refine Up.alloc ?_ _ | with_reducible refine Up.drew ?_ | with_reducible refine Up.drewN ?_ _ | with_reducible refine Up.setCell ?_ (by (try simp) <;> omega) _ | with_reducible assumption | with_reducible refine Up.trans ?_ (by assumption)))))) ?_
    rw [← HR.out]
    rintro e w1 ⟨A1, c1, A2, c2, rfl, s1, s2, hb_w1⟩
    obtain ⟨ca, da⟩ := hb_w1.at_ w.heap.size (by (try simp) <;> omega)
    obtain ⟨cb, db⟩ := hb_w1.at_ (w.heap.size + 1) (by (try simp) <;> omega)
    have hz := hb_w1.size
    have u1 : Up w w1 := by (repeat (first | with_reducible exact Up.refl _ | with_reducible refine Up.alloc ?_ _ | with_reducible refine Up.drew ?_ | with_reducible refine Up.drewN ?_ _ | with_reducible refine Up.setCell ?_ (by (try simp) <;> omega) _ | with_reducible assumption | with_reducible refine Up.trans ?_ (by assumption)))
    simp at hz s1 s2
    unfold actV
    go_wp2
    refine bodyPost_ret (v := .tuple #[actV r.1 A1 c1 A2 c2, .int .i64 r.2]) (by simp [results, Tryd.results20, go_sem, actV, ca, cb]) rfl ⟨A1, c1, A2, c2, rfl, Sl.low (B := w.heap.size + 1 + 1) ?_ (by omega), Sl.low (B := w.heap.size + 1 + 1) ?_ (by omega), by (repeat (first | with_reducible exact Up.refl _ | with_reducible refine Up.alloc ?_ _ | with_reducible refine Up.drew ?_ | with_reducible refine Up.drewN ?_ _ | with_reducible refine Up.setCell ?_ (by (try simp) <;> omega) _ | with_reducible assumption | with_reducible refine Up.trans ?_ (by assumption)))⟩
    · repeat with_reducible refine Sl.set1 ?_ (by omega) _ _
      exact s1
    · repeat with_reducible refine Sl.set1 ?_ (by omega) _ _
      exact s2
  have hr := Lib.hid (show actOf id l = (zAct, 10) by unfold actOf; rw [if_neg i1, if_neg i3, if_neg i9, if_neg i12, if_neg i13, if_neg i14, if_neg i64])
  have e1 : (id == 1) = false := by simpa using i1
  have e2 : (id == 3) = false := by simpa using i3
  have e3 : (id == 9) = false := by simpa using i9
  have e4 : (id == 12) = false := by simpa using i12
  have e5 : (id == 13) = false := by simpa using i13
  have e6 : (id == 14) = false := by simpa using i14
  have e7 : (id == 64) = false := by simpa using i64
  clear i1 i3 i9 i12 i13 i14 i64
  go_enter Tryd.func20, Tryd.ntmps20
  go_wp2
  rw [hr.out]
  exact bodyPost_ret (v := .tuple #[actV zAct none 0 none 0, .int .i64 10]) (by simp [results, Tryd.results20, go_sem, actV, zAct]) rfl (ActRet.zero rfl (by (repeat (first | with_reducible exact Up.refl _ | with_reducible refine Up.alloc ?_ _ | with_reducible refine Up.drew ?_ | with_reducible refine Up.drewN ?_ _ | with_reducible refine Up.setCell ?_ (by (try simp) <;> omega) _ | with_reducible assumption | with_reducible refine Up.trans ?_ (by assumption)))))
end Go.Proofs.YtfambgigdhkiaaaDoor
