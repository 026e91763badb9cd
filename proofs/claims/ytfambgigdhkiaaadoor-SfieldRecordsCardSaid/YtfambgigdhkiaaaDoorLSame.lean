/-
  The law's same over lists of fields; rows of structs as they lie. No condition.
-/
import Derived.Test.YtfambgigdhkiaaaDoorFL
import Derived.BigQuiet
namespace Go.Proofs.YtfambgigdhkiaaaDoor
open Go.RowKit
set_option linter.unusedVariables false
set_option linter.unusedSimpArgs false

theorem flatMap_len' {α : Type} {k : Nat} {enc : α → List Value} (hk : ∀ x, (enc x).length = k) : ∀ L : List α, (L.flatMap enc).length = L.length * k
  | [] => by simp
  | x :: L => by rw [List.flatMap_cons, List.length_append, hk, flatMap_len' hk L, List.length_cons, Nat.succ_mul]; omega
/-- a row of a list of structs, as it lies -/
theorem row_at {α : Type} {k : Nat} {enc : α → List Value} (hk : ∀ x, (enc x).length = k) {w : World} {B b off n : Nat} {L : List α} (h : Reads w B k (some ⟨b, off, none⟩) n (L.flatMap enc)) {j : Nat} {x : α} (hj : L[j]? = some x) (h0 : 0 < k) :
    ∀ i u, (enc x)[i]? = some u → w.cell? ⟨b, off + j * k + i, none⟩ = some u := by
  intro i u hu
  have hjl := (List.getElem?_eq_some_iff.1 hj).1
  have hL : L.length = n := by have := h.1; rw [flatMap_len' hk] at this; exact Nat.eq_of_mul_eq_mul_right h0 this
  obtain ⟨b', off', e, hb, hc⟩ := h.2 (by omega)
  injection e with e
  injection e with e1 e2 _
  subst e1; subst e2
  rw [Nat.add_assoc]
  refine hc _ u ?_
  have hi : i < k := by have := (List.getElem?_eq_some_iff.1 hu).1; rw [hk] at this; exact this
  clear hc h hL
  induction L generalizing j with
  | nil => simp at hj
  | cons y L ih =>
    rw [List.flatMap_cons]
    cases j with
    | zero =>
      simp at hj
      subst hj
      rw [List.getElem?_append_left (by rw [hk]; omega)]
      simpa using hu
    | succ j =>
      rw [List.getElem?_append_right (by rw [hk, Nat.succ_mul]; omega), hk]
      rw [show (j + 1) * k + i - k = j * k + i by rw [Nat.succ_mul]; omega]
      exact ih (by simpa using hj) (by simp at hjl; omega)
theorem rf_at {e : TypeId} {B : Nat} {w : World} {A : Option Addr} {c : Nat} {xs : List RF} (h : FL e 2 RF.cells RF.inn B w A c xs) {j : Nat} {x : RF} (hj : xs[j]? = some x) :
    ∃ b, A = some ⟨b, 0, none⟩ ∧ b < w.heap.size ∧ w.cell? ⟨b, j * 2, none⟩ = some (.int .u8 x.id) ∧ w.cell? ⟨b, j * 2 + 1, none⟩ = some (.slice x.A x.l.length x.c) ∧ Sl B w x.A x.l.length x.c x.l := by
  have hlt := (List.getElem?_eq_some_iff.1 hj).1
  have hr := Reads.of_own h.own
  rcases h.own.2 with ⟨e1, e2⟩ | ⟨g, cap, cur, e1, _, _⟩
  · omega
  · injection e1 with e1 _ _
    subst e1
    obtain ⟨b', off', e3, hb, _⟩ := hr.2 (by omega)
    injection e3 with e3
    injection e3 with e3 _ _
    subst e3
    have := row_at (enc := RF.cells) (k := 2) (fun _ => rfl) hr hj (by decide)
    have a0 := this 0 _ rfl
    have a1 := this 1 _ rfl
    rw [Nat.zero_add] at a0 a1
    exact ⟨g, rfl, hb, a0, a1, h.good x (List.mem_of_getElem? hj) _ (List.mem_singleton.2 rfl)⟩
set_option maxHeartbeats 3200000 in
theorem lsame_is {B B' : Nat} {A A' : Option Addr} {c c' n n' : Nat} {xs ys : List RF} {w : World} (h : FL 43 2 RF.cells RF.inn B w A c xs) (h' : FL 43 2 RF.cells RF.inn B' w A' c' ys) (hn : xs.length = n) (hn' : ys.length = n') :
    Calls Tryd.prog 14 #[.slice A n c, .slice A' n' c'] w fun e w' => e = .returned (.bool (decide (xs.map RF.bare = ys.map RF.bare))) ∧ Up w w' := by
  by_cases hq : n = n'
  · have h64 : n ≤ 9223372036854775807 := by have := h.le; have := h.mx; simp [maxLen] at this; omega
    have H := Lib.hid h
    have H' := Lib.hid h'
    have HN := Lib.hid hn
    have HN' := Lib.hid (hn'.trans hq.symm)
    subst hq
    clear h h' hn hn'
    go_enter Tryd.func14, Tryd.ntmps14
    go_wp2
    go_loopw [13] (fun q wr => ∃ j : Nat, j ≤ n ∧ q = .int .i64 (j : Int) ∧ Up w wr ∧ (xs.map RF.bare).take j = (ys.map RF.bare).take j) (fun q _ => n - (intOf q).toNat)
    case atStart => exact ⟨0, Nat.zero_le _, rfl, Up.refl w, rfl⟩
    case round =>
      obtain ⟨j, hj, rfl, hu, heq⟩ := hrel
      have HU := Lib.hid hu
      have HE := Lib.hid heq
      clear hu heq
      by_cases hlt : j < n
      · obtain ⟨x, hx⟩ : ∃ x, xs[j]? = some x := ⟨_, List.getElem?_eq_getElem (by have := HN.out; omega)⟩
        obtain ⟨y, hy⟩ : ∃ y, ys[j]? = some y := ⟨_, List.getElem?_eq_getElem (by have := HN'.out; omega)⟩
        obtain ⟨b, rfl, hb, x0, x1, sx⟩ := rf_at (H.out.up HU.out) hx
        obtain ⟨b', rfl, hb', y0, y1, sy⟩ := rf_at (H'.out.up HU.out) hy
        have HX := Lib.hid hx
        have HY := Lib.hid hy
        have SX := Lib.hid sx
        have SY := Lib.hid sy
        clear hx hy sx sy
        have hlt' : (j : Int) < n := by omega
        by_cases hid : x.id = y.id
        · have e0 : (x.id != y.id) = false := by simpa using hid
          have HID := Lib.hid hid
          clear hid
          have HS := Lib.hid (fun w' (hu : Up wr w') => same_sl (SX.out.up hu) (SY.out.up hu))
          have hU := HU.out
          by_cases hl : x.l = y.l
          · rw [decide_eq_true hl] at HS
            have HT := Lib.hid (show (xs.map RF.bare).take (j + 1) = (ys.map RF.bare).take (j + 1) by
              rw [List.take_add_one, List.take_add_one, HE.out]
              congr 1
              simp only [List.getElem?_map, HX.out, HY.out, Option.map_some]
              simp [RF.bare, HID.out, hl])
            clear hl
            go_wp2
            refine wp_region_up_lit (by kernel_rfl) (by kernel_rfl) ?_
            repeat (go_big_quiet_step ((go_at_call 17; exact up_same (HS.out _ (up_upOf _ _)))))
            refine wpQuiet_nil ?_
            rintro w2 ⟨W_w2, hw_w2⟩
            have hb_w2 : Up _ w2 := hw_w2 ▸ up_upOf _ _
            clear hw_w2 W_w2
            have hu_w2 : Up wr w2 := by (repeat (first | with_reducible exact Up.refl _ | with_reducible refine Up.alloc ?_ _ | with_reducible refine Up.drew ?_ | with_reducible refine Up.drewN ?_ _ | with_reducible refine Up.setCell ?_ (by (try simp) <;> omega) _ | with_reducible assumption | with_reducible refine Up.trans ?_ (by assumption)))
            have hz_w2 := Up.size hb_w2
            try simp at hz_w2
            go_wp2_with fail
            go_roundw
            case rel => exact ⟨j + 1, by omega, by go_num, hU.trans hu_w2, HT.out⟩
            case measure => simp [intOf]; omega
          · rw [decide_eq_false hl] at HS
            have hne := Lib.hid (show decide (xs.map RF.bare = ys.map RF.bare) = false from decide_eq_false (fun e => hl (by
              have := congrArg (fun l => l[j]?) e
              simp only [List.getElem?_map, HX.out, HY.out, Option.map_some, Option.some.injEq] at this
              exact congrArg Prod.snd this)))
            clear hl
            go_wp2
            refine wp_region_up_lit (by kernel_rfl) (by kernel_rfl) ?_
            repeat (go_big_quiet_step ((go_at_call 17; exact up_same (HS.out _ (up_upOf _ _)))))
            refine wpQuiet_nil ?_
            rintro w2 ⟨W_w2, hw_w2⟩
            have hb_w2 : Up _ w2 := hw_w2 ▸ up_upOf _ _
            clear hw_w2 W_w2
            have hu_w2 : Up wr w2 := by (repeat (first | with_reducible exact Up.refl _ | with_reducible refine Up.alloc ?_ _ | with_reducible refine Up.drew ?_ | with_reducible refine Up.drewN ?_ _ | with_reducible refine Up.setCell ?_ (by (try simp) <;> omega) _ | with_reducible assumption | with_reducible refine Up.trans ?_ (by assumption)))
            have hz_w2 := Up.size hb_w2
            try simp at hz_w2
            go_wp2_with fail
            go_ret
            exact ⟨ret_bool hne.out.symm, hU.trans hu_w2⟩
        · have e0 : (x.id != y.id) = true := by simpa using hid
          have hne := Lib.hid (show decide (xs.map RF.bare = ys.map RF.bare) = false from decide_eq_false (fun e => hid (by
            have := congrArg (fun l => l[j]?) e
            simp only [List.getElem?_map, HX.out, HY.out, Option.map_some, Option.some.injEq] at this
            exact congrArg Prod.fst this)))
          clear hid
          have hU := HU.out
          go_wp2
          go_quiet (fail)
          go_wp2
          go_ret
          exact ⟨ret_bool hne.out.symm, by (repeat (first | with_reducible exact Up.refl _ | with_reducible refine Up.alloc ?_ _ | with_reducible refine Up.drew ?_ | with_reducible refine Up.drewN ?_ _ | with_reducible refine Up.setCell ?_ (by (try simp) <;> omega) _ | with_reducible assumption | with_reducible refine Up.trans ?_ (by assumption)))⟩
      · obtain rfl : j = n := by omega
        have hT := Lib.hid (show decide (xs.map RF.bare = ys.map RF.bare) = true from decide_eq_true (by
          have := HE.out
          rwa [List.take_of_length_le (by rw [List.length_map, HN.out]; exact Nat.le_refl _), List.take_of_length_le (by rw [List.length_map, HN'.out]; exact Nat.le_refl _)] at this))
        go_wp2
        go_ret
        exact ⟨ret_bool hT.out.symm, HU.out⟩
  · have hd := Lib.hid (show decide (xs.map RF.bare = ys.map RF.bare) = false from decide_eq_false (fun e => hq (by have := congrArg List.length e; simpa [hn, hn'] using this)))
    have hq' : ((n : Int) != n') = true := by simp; omega
    clear h h' hn hn' hq
    go_enter Tryd.func14, Tryd.ntmps14
    go_wp2
    go_ret
    exact ⟨ret_bool hd.out.symm, by (repeat (first | with_reducible exact Up.refl _ | with_reducible refine Up.alloc ?_ _ | with_reducible refine Up.drew ?_ | with_reducible refine Up.drewN ?_ _ | with_reducible refine Up.setCell ?_ (by (try simp) <;> omega) _ | with_reducible assumption | with_reducible refine Up.trans ?_ (by assumption)))⟩
end Go.Proofs.YtfambgigdhkiaaaDoor
