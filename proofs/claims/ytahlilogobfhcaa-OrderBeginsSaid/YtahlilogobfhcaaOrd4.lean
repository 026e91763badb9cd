/-
  The scanner's addr, text. No condition but the slice's own reach.
-/
import Derived.Test.YtahlilogobfhcaaOrd3
namespace Go.Proofs.Ytahlilogobfhcaa
open Go.RowKit
set_option linter.unusedVariables false
set_option linter.unusedSimpArgs false

theorem decE_or (r : Int) : decE 12 r = 0 ∨ decE 12 r = 9 := by
  unfold decE
  split
  · exact .inl rfl
  split
  · exact .inr rfl
  · exact .inl rfl
set_option maxHeartbeats 800000 in
theorem addr_ok {w : World} {b : Nat} {A : Option Addr} {n c : Nat} {x y : Int} {r : List Int} (h : Sc w b A n c (x :: y :: r) 0) (hy : decE 12 x = 0) :
    Calls Try.prog 19 #[.pointer (some ⟨b, 0, none⟩)] w fun e w' => e = .returned (.int .i64 (decN 12 x y)) ∧ (∃ A' n' c', Sc w' b A' n' c' r 0) ∧ Near b w w' := by
  have hl := h.sl.len
  simp at hl
  have hw := h.sl.bytes
  have HT := Lib.hid (take_ok (k := 2) h (by omega) (by omega))
  have HD := Lib.hid (fun W (hr : Sl 0 W A 2 2 [x, y]) => decode_ok 12 A 2 2 x y [] W (by unfold bitsB; omega) hr.rd hr.bytes (by omega))
  rw [hy] at HD
  have HSL := Lib.hid (h.sl.front (k := 2) (by omega))
  have HNE := Lib.hid h.ne
  simp only [List.take_succ_cons, List.take_zero] at HSL
  clear h hl hw hy
  go_enter Try.func19, Try.ntmps19
  go_wp2_with fail
  refine HT.out.mono ?_
  rintro e w1 ⟨rfl, ⟨A', hs1⟩, hk1⟩
  have HS1 := Lib.hid (HSL.out.past hk1 HNE.out)
  have HR := Lib.hid (show Sc w1 b A' _ _ r 0 ∧ Near b w w1 from ⟨hs1, hk1⟩)
  have c1 := hs1.c1
  have zb := hs1.lt
  clear hs1 hk1
  go_wp2_with fail
  refine (HD.out _ HS1.out).mono ?_
  rintro e w2 ⟨rfl, hu2⟩
  have HX := Lib.hid (show Sc w2 b A' _ _ r 0 ∧ Near b w w2 from ⟨HR.out.1.up hu2, HR.out.2.up hu2⟩)
  clear hu2 c1
  go_wp2_with fail
  go_ret
  exact ⟨rfl, ⟨_, _, _, HX.out.1⟩, HX.out.2⟩
set_option maxHeartbeats 1600000 in
theorem addr_no {w : World} {b : Nat} {A : Option Addr} {n c : Nat} {l : List Int} (h : Sc w b A n c l 0) (hy : l.length < 2 ∨ decE 12 (l.getD 0 0) ≠ 0) :
    Calls Try.prog 19 #[.pointer (some ⟨b, 0, none⟩)] w fun e w' => ∃ v A' n' c' l' e1, e = .returned (.int .i64 v) ∧ e1 ≠ 0 ∧ Sc w' b A' n' c' l' e1 ∧ Near b w w' := by
  have hl := h.sl.len
  by_cases hn : n < 2
  · have HT := Lib.hid (take_no (k := 2) h hn (by omega))
    rw [show errs 0 2 = 2 from rfl] at HT
    clear h hl hy
    go_enter Try.func19, Try.ntmps19
    go_wp2_with fail
    refine HT.out.mono ?_
    rintro e w1 ⟨g, rfl, zg, hgb, hc, hs1, hk1⟩
    have HR := Lib.hid (show Sc w1 b none 0 0 [] 2 ∧ Near b w w1 from ⟨hs1, hk1⟩)
    have c1 := hs1.c1
    have zb := hs1.lt
    clear hs1 hk1 hc
    go_wp2_with fail
    go_ret
    exact ⟨_, _, _, _, _, _, rfl, by omega, HR.out.1, HR.out.2⟩
  · obtain ⟨x, y, r, rfl⟩ : ∃ x y r, l = x :: y :: r := by
      match l, hl with
      | [], hl => simp at hl; omega
      | [_], hl => simp at hl; omega
      | x :: y :: r, _ => exact ⟨x, y, r, rfl⟩
    have hy : decE 12 x = 9 := by
      rcases hy with hy | hy
      · simp at hy; omega
      · rcases decE_or x with h1 | h1
        · exact absurd h1 hy
        · exact h1
    have hw := h.sl.bytes
    have HT := Lib.hid (take_ok (k := 2) h (by omega) (by omega))
    have HD := Lib.hid (fun W (hr : Sl 0 W A 2 2 [x, y]) => decode_ok 12 A 2 2 x y [] W (by unfold bitsB; omega) hr.rd hr.bytes (by omega))
    rw [hy] at HD
    have HSL := Lib.hid (h.sl.front (k := 2) (by omega))
    have HNE := Lib.hid h.ne
    simp only [List.take_succ_cons, List.take_zero] at HSL
    clear h hl hw hy
    go_enter Try.func19, Try.ntmps19
    go_wp2_with fail
    refine HT.out.mono ?_
    rintro e w1 ⟨rfl, ⟨A', hs1⟩, hk1⟩
    have HS1 := Lib.hid (HSL.out.past hk1 HNE.out)
    have HR := Lib.hid (show Sc w1 b A' _ _ r 0 ∧ Near b w w1 from ⟨hs1, hk1⟩)
    have c1 := hs1.c1
    have zb := hs1.lt
    clear hs1 hk1
    go_wp2_with fail
    refine (HD.out _ HS1.out).mono ?_
    rintro e w2 ⟨rfl, hu2⟩
    have HX := Lib.hid (show Sc w2 b A' _ _ r 0 ∧ Near b w w2 from ⟨HR.out.1.up hu2, HR.out.2.up hu2⟩)
    have HF := Lib.hid (sfail_is 9 HX.out.1)
    rw [show errs 0 9 = 9 from rfl] at HF
    clear hu2 c1
    go_wp2_with fail
    refine HF.out.mono ?_
    rintro e w3 ⟨rfl, hs3, hk3⟩
    have HY := Lib.hid (show Sc w3 b A' _ _ r 9 ∧ Near b w w3 from ⟨hs3, HX.out.2.trans hk3⟩)
    clear hs3 hk3
    go_wp2_with fail
    go_ret
    exact ⟨_, _, _, _, _, _, rfl, by omega, HY.out.1, HY.out.2⟩
/-- as many as are no order's bytes -/
def txtN : List Int → Nat
  | [] => 0
  | x :: l => if isOrd x then 0 else txtN l + 1
theorem txtN_le (l : List Int) : txtN l ≤ l.length := by
  induction l with
  | nil => simp [txtN]
  | cons x l ih => unfold txtN; split <;> simp; omega
theorem txtN_lt (l : List Int) : ∀ i, i < txtN l → isOrd (l.getD i 0) = false := by
  induction l with
  | nil => intro i h; simp [txtN] at h
  | cons x l ih =>
    intro i h
    unfold txtN at h
    cases ho : isOrd x
    · rw [ho] at h
      simp at h
      cases i with
      | zero => exact ho
      | succ i => exact ih i (by omega)
    · rw [ho] at h; simp at h
theorem txtN_at (l : List Int) (h : txtN l < l.length) : isOrd (l.getD (txtN l) 0) = true := by
  induction l with
  | nil => simp at h
  | cons x l ih =>
    unfold txtN at h ⊢
    cases ho : isOrd x
    · rw [ho] at h
      simp at h ⊢
      have := ih h
      simpa using this
    · simpa using ho
set_option maxHeartbeats 1600000 in
theorem text_is {w : World} {b : Nat} {A : Option Addr} {n c : Nat} {l : List Int} {e0 : Int} (h : Sc w b A n c l e0) (h0 : 0 < txtN l) :
    Calls Try.prog 17 #[.pointer (some ⟨b, 0, none⟩)] w fun e w' => ∃ A1 c1, e = .returned (.slice A1 (txtN l) c1) ∧ Sl w.heap.size w' A1 (txtN l) c1 (l.take (txtN l)) ∧ (∃ A' n' c', Sc w' b A' n' c' (l.drop (txtN l)) e0) ∧ Near b w w' := by
  have hl := h.sl.len
  have hle := txtN_le l
  have hlt := txtN_lt l
  have hat := txtN_at l
  have HIS := Lib.hid (fun i w => is_is (x := l.getD i 0) h.sl.byte w)
  have hsm := h.sl.small
  have HH := Lib.hid h
  obtain ⟨m, hm⟩ : ∃ m, txtN l = m := ⟨_, rfl⟩
  rw [hm] at h0 hle hlt hat ⊢
  have HLT := Lib.hid hlt
  have HAT := Lib.hid hat
  have HL := Lib.hid hl
  have hmn : m ≤ n := by omega
  obtain ⟨g, off, rfl, zg⟩ := h.sl.form (by omega)
  have HC := Lib.hid (fun i (hi : i < n) => h.sl.cell hi)
  have HT := Lib.hid (take_ok (k := m) h h0 hmn)
  have HSL := Lib.hid (h.sl.front hmn)
  have HNE := Lib.hid h.ne
  have c0 := h.c0
  have zb := h.lt
  clear h hl hlt hat hm hle
  go_enter Try.func17, Try.ntmps17
  go_wp2
  go_loopw [3] (fun i wr => ∃ j : Nat, j ≤ m ∧ i = .int .i64 (j : Int) ∧ wr = w) (fun i _ => m - (intOf i).toNat)
  case atStart => exact ⟨0, by omega, rfl, by first | rfl | trivial⟩
  case round =>
    obtain ⟨j, hj, rfl, rfl⟩ := hrel
    by_cases hjn : j < n
    · have hcj := HC.out j hjn
      have q1 : (j : Int) < (n : Int) := by omega
      by_cases hjm : j < m
      · have ho := HLT.out j hjm
        have HI := Lib.hid (fun w => HIS.out j w)
        rw [ho] at HI
        clear ho
        go_wp2_with fail
        refine (HI.out _).mono ?_
        rintro e w2 ⟨rfl, rfl⟩
        go_wp2_with fail
        go_roundw
        case rel => exact ⟨j + 1, by omega, by go_num, by first | rfl | trivial⟩
        case measure => simp [intOf]; omega
      · obtain rfl : j = m := by omega
        have ho := HAT.out (by have := HL.out; omega)
        have HI := Lib.hid (fun w => HIS.out j w)
        rw [ho] at HI
        clear ho
        go_wp2_with fail
        refine (HI.out _).mono ?_
        rintro e w2 ⟨rfl, rfl⟩
        go_wp2_with fail
        refine HT.out.mono ?_
        rintro e w3 ⟨rfl, ⟨A', hs3⟩, hk3⟩
        have HS3 := Lib.hid (HSL.out.past hk3 HNE.out)
        have HX := Lib.hid (show Sc w3 b A' _ _ _ e0 ∧ Near b wr w3 from ⟨hs3, hk3⟩)
        clear hs3 hk3
        go_wp2_with fail
        refine (clone_sl HS3.out).mono ?_
        rintro e w4 ⟨A1, c1, rfl, hsl, hu4⟩
        have HY := Lib.hid (show Sl w3.heap.size w4 A1 j c1 _ ∧ Sc w4 b A' _ _ _ e0 ∧ Near b wr w4 from ⟨hsl, HX.out.1.up hu4, HX.out.2.up hu4⟩)
        clear hsl hu4
        go_wp2_with fail
        go_ret
        exact ⟨_, _, rfl, HY.out.1.low HX.out.2.size, ⟨_, _, _, HY.out.2.1⟩, HY.out.2.2⟩
    · obtain rfl : j = m := by omega
      go_wp2_with fail
      refine HT.out.mono ?_
      rintro e w3 ⟨rfl, ⟨A', hs3⟩, hk3⟩
      have HS3 := Lib.hid (HSL.out.past hk3 HNE.out)
      have HX := Lib.hid (show Sc w3 b A' _ _ _ e0 ∧ Near b wr w3 from ⟨hs3, hk3⟩)
      clear hs3 hk3
      go_wp2_with fail
      refine (clone_sl HS3.out).mono ?_
      rintro e w4 ⟨A1, c1, rfl, hsl, hu4⟩
      have HY := Lib.hid (show Sl w3.heap.size w4 A1 j c1 _ ∧ Sc w4 b A' _ _ _ e0 ∧ Near b wr w4 from ⟨hsl, HX.out.1.up hu4, HX.out.2.up hu4⟩)
      clear hsl hu4
      go_wp2_with fail
      go_ret
      exact ⟨_, _, rfl, HY.out.1.low HX.out.2.size, ⟨_, _, _, HY.out.2.1⟩, HY.out.2.2⟩
end Go.Proofs.Ytahlilogobfhcaa
