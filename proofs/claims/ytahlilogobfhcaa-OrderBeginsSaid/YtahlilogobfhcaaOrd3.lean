/-
  order's Is; the scanner's addr, character. No condition but the slice's own reach.
-/
import Derived.Test.YtahlilogobfhcaaOrd2
import Derived.Test.YtahlilogobfhcaaAddr4
namespace Go.Proofs.Ytahlilogobfhcaa
open Go.RowKit
set_option linter.unusedVariables false
set_option linter.unusedSimpArgs false

theorem ord_tab2 : ∀ k : Fin 256, ((k.val : Int) != 0 && !(nm16 (k.val : Int)).data.toList.isEmpty) = isOrd (k.val : Int) := by decide +kernel
theorem isOrd_tab {x : Int} (h : 0 ≤ x ∧ x ≤ 255) : (x != 0 && !(nm16 x).toList.isEmpty) = isOrd x := by
  rw [ByteArray.toList_eq]
  have := ord_tab2 ⟨x.toNat, by omega⟩
  have e : ((x.toNat : Nat) : Int) = x := by omega
  simpa only [e] using this
set_option maxHeartbeats 800000 in
theorem is_is {x : Int} (h : 0 ≤ x ∧ x ≤ 255) (w : World) :
    Calls Try.prog 8 #[.int .u8 x] w fun e w' => e = .returned (.bool (isOrd x)) ∧ w = w' := by
  have ht := isOrd_tab h
  obtain ⟨h0, h1⟩ := h
  have HN := Lib.hid (fun w => oname_is x w)
  generalize nm16 x = s at *
  cases e0 : (x != 0)
  · rw [e0] at ht
    have ht' : isOrd x = false := by rw [← ht]; rfl
    rw [ht']
    clear ht ht'
    go_enter Try.func8, Try.ntmps8
    go_wp2
    go_ret
    exact ⟨rfl, rfl⟩
  · rw [e0] at ht
    have ht' : isOrd x = !s.toList.isEmpty := by rw [← ht]; rfl
    rw [ht']
    clear ht ht'
    go_enter Try.func8, Try.ntmps8
    go_wp2_with fail
    refine (HN.out _).mono ?_
    rintro e w1 ⟨rfl, rfl⟩
    go_wp2_with fail
    go_ret
    exact ⟨rfl, rfl⟩
theorem Sc.cell {W : World} {b : Nat} {A : Option Addr} {n c : Nat} {l : List Int} {e : Int} (h : Sc W b A n c l e) {i : Nat} (hi : i < n) : ∃ g off, A = some ⟨g, off, none⟩ ∧ g < W.heap.size ∧ g ≠ b ∧ W.cell? ⟨g, off + i, none⟩ = some (.int .u8 (l.getD i 0)) := by
  obtain ⟨g, off, rfl, zg⟩ := h.sl.form (by omega)
  exact ⟨g, off, rfl, zg, h.ne _ rfl, h.sl.cell hi⟩
set_option maxHeartbeats 800000 in
theorem char_ok {w : World} {b : Nat} {A : Option Addr} {n c : Nat} {y : Int} {r : List Int} {e0 : Int} (h : Sc w b A n c (y :: r) e0) (hy : isOrd y = false) :
    Calls Try.prog 20 #[.pointer (some ⟨b, 0, none⟩)] w fun e w' => e = .returned (.int .u8 y) ∧ (∃ A' n' c', Sc w' b A' n' c' r e0) ∧ Near b w w' := by
  have hl := h.sl.len
  simp at hl
  have hyb := h.sl.bytes y (by simp)
  have HT := Lib.hid (take_ok (k := 1) h (by omega) (by omega))
  have HI := Lib.hid (fun w => is_is hyb w)
  rw [hy] at HI
  obtain ⟨g, off, rfl, zg, hgb, hc0⟩ := h.cell (i := 0) (by omega)
  simp only [List.getD_cons_zero, Nat.add_zero] at hc0
  clear h hl
  go_enter Try.func20, Try.ntmps20
  go_wp2_with fail
  refine HT.out.mono ?_
  rintro e w1 ⟨rfl, ⟨A', hs1⟩, hk1⟩
  have hc1 := ((hk1.at_ g zg hgb).1 off).trans hc0
  have zg1 := cell_lt hc1
  simp only at zg1
  have HR := Lib.hid (show Sc w1 b A' _ _ r e0 ∧ Near b w w1 from ⟨hs1, hk1⟩)
  clear hs1 hk1
  go_wp2_with fail
  refine (HI.out _).mono ?_
  rintro e w2 ⟨rfl, rfl⟩
  go_wp2_with fail
  go_ret
  exact ⟨rfl, ⟨_, _, _, HR.out.1⟩, HR.out.2⟩
set_option maxHeartbeats 800000 in
theorem char_no {w : World} {b : Nat} {A : Option Addr} {n c : Nat} {l : List Int} {e0 : Int} (h : Sc w b A n c l e0) (hy : e0 ≠ 0 ∨ l = [] ∨ isOrd (l.getD 0 0) = true) :
    Calls Try.prog 20 #[.pointer (some ⟨b, 0, none⟩)] w fun e w' => ∃ y A' n' c' l' e1, e = .returned (.int .u8 y) ∧ e1 ≠ 0 ∧ Sc w' b A' n' c' l' e1 ∧ Near b w w' := by
  have hl := h.sl.len
  rcases Nat.eq_zero_or_pos n with rfl | hn
  · obtain rfl : l = [] := List.eq_nil_of_length_eq_zero hl
    have HT := Lib.hid (take_no (k := 1) h (by omega) (by omega))
    have HI := Lib.hid (fun w => is_is (x := 0) (by omega) w)
    rw [show isOrd 0 = false from rfl] at HI
    have hE := errs_ne (e := e0) (x := 2) (.inr (by omega))
    generalize errs e0 2 = e1 at *
    have HE := Lib.hid hE
    clear h hl hy hE
    go_enter Try.func20, Try.ntmps20
    go_wp2_with fail
    refine HT.out.mono ?_
    rintro e w1 ⟨g, rfl, zg, hgb, hc, hs1, hk1⟩
    have hc0 := hc 0 (by omega)
    have HR := Lib.hid (show Sc w1 b none 0 0 [] e1 ∧ Near b w w1 from ⟨hs1, hk1⟩)
    clear hs1 hk1 hc
    go_wp2_with fail
    refine (HI.out _).mono ?_
    rintro e w2 ⟨rfl, rfl⟩
    go_wp2_with fail
    go_ret
    exact ⟨_, _, _, _, _, _, rfl, HE.out, HR.out.1, HR.out.2⟩
  · obtain ⟨y, r, rfl⟩ : ∃ y r, l = y :: r := by
      cases l with
      | nil => simp at hl; omega
      | cons y r => exact ⟨y, r, rfl⟩
    simp only [List.getD_cons_zero] at hy
    cases ho : isOrd y
    · have he : e0 ≠ 0 := by simpa [ho] using hy
      refine (char_ok h ho).mono ?_
      rintro e w' ⟨rfl, ⟨A', n', c', hs⟩, hk⟩
      exact ⟨_, _, _, _, _, _, rfl, he, hs, hk⟩
    · have hyb := h.sl.bytes y (by simp)
      have HT := Lib.hid (take_ok (k := 1) h (by omega) (by omega))
      have HI := Lib.hid (fun w => is_is hyb w)
      rw [ho] at HI
      obtain ⟨g, off, rfl, zg, hgb, hc0⟩ := h.cell (i := 0) (by omega)
      simp only [List.getD_cons_zero, Nat.add_zero] at hc0
      have HE := Lib.hid (errs_ne (e := e0) (x := 10) (.inr (by omega)))
      clear h hl hy ho
      go_enter Try.func20, Try.ntmps20
      go_wp2_with fail
      refine HT.out.mono ?_
      rintro e w1 ⟨rfl, ⟨A', hs1⟩, hk1⟩
      have hc1 := ((hk1.at_ g zg hgb).1 off).trans hc0
      have zg1 := cell_lt hc1
      simp only at zg1
      have HR := Lib.hid (sfail_is 10 hs1)
      have HK := Lib.hid hk1
      clear hs1 hk1
      go_wp2_with fail
      refine (HI.out _).mono ?_
      rintro e w2 ⟨rfl, rfl⟩
      go_wp2_with fail
      refine HR.out.mono ?_
      rintro e w3 ⟨rfl, hs3, hk3⟩
      have HX := Lib.hid (show Sc w3 b A' _ _ _ (errs e0 10) ∧ Near b w w3 from ⟨hs3, HK.out.trans hk3⟩)
      clear hs3 hk3
      go_wp2_with fail
      go_ret
      exact ⟨_, _, _, _, _, _, rfl, HE.out, HX.out.1, HX.out.2⟩
end Go.Proofs.Ytahlilogobfhcaa
