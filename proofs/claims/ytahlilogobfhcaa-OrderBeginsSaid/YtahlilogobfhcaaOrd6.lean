/-
  The scanner's pairs. No condition but the slice's own reach.
-/
import Derived.Test.YtahlilogobfhcaaOrd5
namespace Go.Proofs.Ytahlilogobfhcaa
open Go.RowKit
set_option linter.unusedVariables false
set_option linter.unusedSimpArgs false

theorem pairs_len16 (l : List Int) (k : Nat) : (pairs l k).length = k := by simp [pairs]
/-- how many pairs are said -/
def numP (l : List Int) : Nat := (l.getD 0 0).toNat
def goodP (l : List Int) : Bool := (pairs l (numP l)).all goodB
theorem numP_le {W : World} {b : Nat} {A : Option Addr} {n c : Nat} {l : List Int} {e : Int} (h : Sc W b A n c l e) : ((numP l : Nat) : Int) = l.getD 0 0 ∧ numP l ≤ 255 := by
  have := h.sl.byte (i := 0)
  unfold numP
  omega
theorem parse_good {w : World} {b : Nat} {A : Option Addr} {n c : Nat} {l : List Int} {e0 : Int} (h : Sc w b A n c l e0) (hn : 1 + 2 * numP l ≤ l.length) (hg : goodP l = true) :
    Calls Try.prog 27 #[.slice A n c] w fun e w' => ∃ A1 c1, e = .returned (.tuple #[.slice A1 (numP l) c1, .int .i64 ((1 + 2 * numP l : Nat) : Int), .int .i64 0]) ∧ Pr w.heap.size w' A1 (numP l) c1 (pairs l (numP l)) ∧ Up w w' := by
  have hl := h.sl.len
  obtain ⟨e1, e2⟩ := numP_le h
  have hsm := h.sl.small
  refine (parse_any A n c l w h.sl.rd h.sl.bytes (by omega) (numP l) e1 (by omega)).mono ?_
  rintro e w' ⟨hu, ⟨A1, c1, rfl, hown, h1, h2, _⟩ | ⟨_, p, hp, hb⟩⟩
  · rw [pairs_len16] at hown h1 ⊢
    exact ⟨A1, c1, by simp, Pr.of_own hown h1 h2 (by omega), hu⟩
  · exfalso
    have := List.all_eq_true.1 hg p hp
    rw [hb] at this
    cases this
theorem parse_bad {w : World} {b : Nat} {A : Option Addr} {n c : Nat} {l : List Int} {e0 : Int} (h : Sc w b A n c l e0) (hn : l.length < 1 + 2 * numP l ∨ goodP l = false) :
    Calls Try.prog 27 #[.slice A n c] w fun e w' => ∃ x, e = .returned (.tuple #[.slice none 0 0, .int .i64 0, .int .i64 x]) ∧ (x = 2 ∨ x = 10) ∧ Up w w' := by
  have hl := h.sl.len
  obtain ⟨e1, e2⟩ := numP_le h
  have hsm := h.sl.small
  by_cases hs : n < 1 + 2 * numP l
  · refine (parse_short A n c l w h.sl.rd h.sl.bytes (by omega) hs).mono ?_
    rintro e w' ⟨rfl, rfl⟩
    exact ⟨2, rfl, .inl rfl, Up.refl _⟩
  · have hg : goodP l = false := by
      rcases hn with hn | hn
      · omega
      · exact hn
    refine (parse_any A n c l w h.sl.rd h.sl.bytes (by omega) (numP l) e1 (by omega)).mono ?_
    rintro e w' ⟨hu, ⟨A1, c1, rfl, hown, h1, h2, hall⟩ | ⟨rfl, _⟩⟩
    · exfalso
      have : goodP l = true := List.all_eq_true.2 hall
      rw [hg] at this
      cases this
    · exact ⟨10, rfl, .inr rfl, hu⟩
set_option maxHeartbeats 1600000 in
theorem pairs_ok {w : World} {b : Nat} {A : Option Addr} {n c : Nat} {l : List Int} {e0 : Int} (h : Sc w b A n c l e0) (hn : 1 + 2 * numP l ≤ l.length) (hg : goodP l = true) :
    Calls Try.prog 22 #[.pointer (some ⟨b, 0, none⟩)] w fun e w' => ∃ A1 c1, e = .returned (.slice A1 (numP l) c1) ∧ Pr w.heap.size w' A1 (numP l) c1 (pairs l (numP l)) ∧ (∃ A' n' c', Sc w' b A' n' c' (l.drop (1 + 2 * numP l)) e0) ∧ Near b w w' := by
  have hl := h.sl.len
  have HP := Lib.hid (parse_good h hn hg)
  have HT := Lib.hid (fun W (hu : Up w W) => take_ok (k := 1 + 2 * numP l) (h.up hu) (by omega) (by omega))
  obtain ⟨k, hk⟩ : ∃ k : Nat, 1 + 2 * numP l = k := ⟨_, rfl⟩
  rw [hk] at HP HT ⊢
  have c0 := h.c0
  have zb := h.lt
  have HH := Lib.hid h
  generalize numP l = m at *
  generalize pairs l m = L at *
  clear h hl hn hg hk
  go_enter Try.func22, Try.ntmps22
  go_wp2_with fail
  refine HP.out.mono ?_
  rintro e w1 ⟨A1, c1, rfl, hp, hu⟩
  have HP1 := Lib.hid hp
  have HU1 := Lib.hid hu
  clear hp hu
  go_wp2_with fail
  refine (HT.out _ HU1.out).mono ?_
  rintro e w2 ⟨rfl, ⟨A', hs2⟩, hk2⟩
  have HX := Lib.hid (show Sc w2 b A' _ _ _ e0 ∧ Near b w w2 ∧ Pr w.heap.size w2 A1 m c1 L from ⟨hs2, (Keep.of_up HU1.out).trans hk2, HP1.out.past hk2 (fun p hp e => by have := HP1.out.at_ p hp; omega)⟩)
  clear hs2 hk2
  go_wp2_with fail
  go_ret
  exact ⟨_, _, rfl, HX.out.2.2, ⟨_, _, _, HX.out.1⟩, HX.out.2.1⟩
set_option maxHeartbeats 1600000 in
theorem pairs_no {w : World} {b : Nat} {A : Option Addr} {n c : Nat} {l : List Int} (h : Sc w b A n c l 0) (hn : l.length < 1 + 2 * numP l ∨ goodP l = false) :
    Calls Try.prog 22 #[.pointer (some ⟨b, 0, none⟩)] w fun e w' => ∃ A1 n1 c1 A' n' c' l' e1, e = .returned (.slice A1 n1 c1) ∧ e1 ≠ 0 ∧ Sc w' b A' n' c' l' e1 ∧ Near b w w' := by
  have HP := Lib.hid (parse_bad h hn)
  have c0 := h.c0
  have zb := h.lt
  have HH := Lib.hid h
  clear h hn
  go_enter Try.func22, Try.ntmps22
  go_wp2_with fail
  refine HP.out.mono ?_
  rintro e w1 ⟨x, rfl, hx, hu⟩
  have HU1 := Lib.hid hu
  have HF := Lib.hid (fun x => sfail_is x (HH.out.up HU1.out))
  clear hu
  rcases hx with rfl | rfl
  all_goals
    go_wp2_with fail
    refine (HF.out _).mono ?_
    rintro e w2 ⟨rfl, hs2, hk2⟩
    have HX := Lib.hid (show Sc w2 b _ _ _ _ _ ∧ Near b w w2 from ⟨hs2, (Keep.of_up HU1.out).trans hk2⟩)
    clear hs2 hk2
    go_wp2_with fail
    go_ret
    exact ⟨_, _, _, _, _, _, _, _, rfl, errs_ne (.inr (by omega)), HX.out.1, HX.out.2⟩
end Go.Proofs.Ytahlilogobfhcaa
