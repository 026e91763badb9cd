/-
  The scanner's pair, pairs. No condition but the slice's own reach.
-/
import Derived.Test.YtahlilogobfhcaaOrd4
import Derived.Test.YtahlilogobfhcaaAttr4
namespace Go.Proofs.Ytahlilogobfhcaa
open Go.RowKit
set_option linter.unusedVariables false
set_option linter.unusedSimpArgs false

/-- the slice A, n, c reads as these pairs; its block, if there is one, is at or above B -/
structure Pr (B : Nat) (w : World) (A : Option Addr) (n c : Nat) (L : List (Int × Int)) : Prop where
  rd : Reads w w.heap.size 2 A n (ps L)
  cap : n ≤ c
  mx : c ≤ maxLen
  at_ : ∀ p, A = some p → B ≤ p.block
  small : n ≤ 65536
  tag : ∀ p, A = some p → ∃ cur q, w.heap[p.block]? = some (.cells cur 50 q)
section
variable {B B' : Nat} {w w' : World} {A : Option Addr} {n c : Nat} {L : List (Int × Int)}
theorem Pr.len (h : Pr B w A n c L) : L.length = n := by have := h.rd.1; rw [ps_len] at this; omega
theorem Pr.none_ : Pr B w none 0 0 [] := ⟨Reads.none_, Nat.le_refl _, by simp [maxLen], fun _ h => (by cases h), by omega, fun _ h => (by cases h)⟩
theorem Pr.lt (h : Pr B w A n c L) {p : Addr} (hp : A = some p) : p.block < w.heap.size := by
  obtain ⟨cur, q, e⟩ := h.tag p hp
  exact (Array.getElem?_eq_some_iff.1 e).1
theorem Pr.up (h : Pr B w A n c L) (hu : Up w w') : Pr B w' A n c L := ⟨h.rd.up hu, h.cap, h.mx, h.at_, h.small, fun p hp => by rw [hu.block _ (h.lt hp)]; exact h.tag p hp⟩
theorem Pr.low (h : Pr B w A n c L) (hB : B' ≤ B) : Pr B' w A n c L := ⟨h.rd, h.cap, h.mx, fun p hp => Nat.le_trans hB (h.at_ p hp), h.small, h.tag⟩
theorem Pr.past {E : Nat → Prop} (h : Pr B w A n c L) (hk : Keep E w w') (hE : ∀ p, A = some p → ¬ E p.block) : Pr B w' A n c L :=
  ⟨h.rd.kept hk hE, h.cap, h.mx, h.at_, h.small, fun p hp => by rw [hk.block _ (h.lt hp) (hE p hp)]; exact h.tag p hp⟩
theorem Pr.of_own (h : w.ownsRow B 50 2 (.slice A n c) n (ps L)) (h1 : n ≤ c) (h2 : c ≤ maxLen) (h3 : n ≤ 65536) : Pr B w A n c L :=
  ⟨Reads.of_own h, h1, h2, fun p hp => by
    subst hp
    rcases h.2 with ⟨e1, _⟩ | ⟨g, cap, cur, e1, h6, _⟩
    · cases e1
    · injection e1 with e1 _ _
      injection e1 with e1
      subst e1
      exact h6, h3, fun p hp => by
    subst hp
    rcases h.2 with ⟨e1, _⟩ | ⟨g, cap, cur, e1, h6, h7, _⟩
    · cases e1
    · injection e1 with e1 _ _
      injection e1 with e1
      subst e1
      exact ⟨cur, _, h7⟩⟩
theorem Pr.lit (w : World) (x y : Int) : Pr w.heap.size (w.alloc (.cells #[.int .u8 x, .int .u8 y] 50)) (some ⟨w.heap.size, 0, none⟩) 1 1 [(x, y)] :=
  ⟨(reads_at w w.heap.size 2 1 #[.int .u8 x, .int .u8 y] _ rfl rfl).more (show w.heap.size + 1 ≤ (w.alloc (.cells #[.int .u8 x, .int .u8 y] 50)).heap.size by simp), Nat.le_refl _, by simp [maxLen], fun p hp => (by injection hp with hp; subst hp; exact Nat.le_refl _), by omega, fun p hp => (by injection hp with hp; subst hp; exact ⟨#[.int .u8 x, .int .u8 y], _, by show (w.heap.push _)[w.heap.size]? = _; rw [Array.getElem?_push_size]⟩)⟩
end
set_option maxHeartbeats 1600000 in
theorem pair_ok {w : World} {b : Nat} {A : Option Addr} {n c : Nat} {x y : Int} {r : List Int} {e0 : Int} (h : Sc w b A n c (x :: y :: r) e0) (hy : rightB x y = true) :
    Calls Try.prog 21 #[.pointer (some ⟨b, 0, none⟩)] w fun e w' => ∃ A1, e = .returned (.slice A1 1 1) ∧ Pr w.heap.size w' A1 1 1 [(x, y)] ∧ (∃ A' n' c', Sc w' b A' n' c' r e0) ∧ Near b w w' := by
  have hl := h.sl.len
  simp at hl
  have HT := Lib.hid (take_ok (k := 2) h (by omega) (by omega))
  have HK := Lib.hid (fun W => check_good hy W)
  obtain ⟨g, off, rfl, zg, hgb, hc0⟩ := h.cell (i := 0) (by omega)
  obtain ⟨g', off', e1, _, _, hc1⟩ := h.cell (i := 1) (by omega)
  obtain ⟨rfl, rfl⟩ : g = g' ∧ off = off' := by injection e1 with e1; injection e1 with e1 e2; exact ⟨e1, e2⟩
  simp only [List.getD_cons_zero, Nat.add_zero, List.getD_cons_succ] at hc0 hc1
  clear h hl hy e1
  go_enter Try.func21, Try.ntmps21
  go_wp2_with fail
  refine HT.out.mono ?_
  rintro e w1 ⟨rfl, ⟨A', hs1⟩, hk1⟩
  have d0 := ((hk1.at_ g zg hgb).1 off).trans hc0
  have d1 := ((hk1.at_ g zg hgb).1 (off + 1)).trans hc1
  have zg1 := cell_lt d0
  simp only at zg1
  have HR := Lib.hid (show Sc w1 b A' _ _ r e0 ∧ Near b w w1 from ⟨hs1, hk1⟩)
  clear hs1 hk1
  go_wp2_with fail
  have zw := HR.out.2.size
  go_region
  go_wp2_with fail
  refine (HK.out _).mono ?_
  rintro e w2 ⟨rfl, hu2⟩
  have hb := hu2.at_ w1.heap.size (by simp)
  have k0 := (hb.1 0).trans (by simp [go_sem] : _ = some (.int .u8 x))
  have k1 := (hb.1 1).trans (by simp [go_sem] : _ = some (.int .u8 y))
  have z2 := hu2.size
  simp at z2
  have hz2 : w1.heap.size < w2.heap.size := by omega
  have HX := Lib.hid (show Sc w2 b A' _ _ r e0 ∧ Near b w w2 from ⟨(HR.out.1.up ((Up.refl _).alloc _).drew).up hu2, (HR.out.2.up ((Up.refl _).alloc _).drew).up hu2⟩)
  clear hu2 hb d0 d1
  go_wp2_with fail
  go_ret
  exact ⟨_, rfl, (Pr.lit w2 x y).low (by omega), ⟨_, _, _, HX.out.1.up ((Up.refl _).alloc _)⟩, HX.out.2.up ((Up.refl _).alloc _)⟩
set_option maxHeartbeats 1600000 in
theorem pair_no {w : World} {b : Nat} {A : Option Addr} {n c : Nat} {l : List Int} (h : Sc w b A n c l 0) (hy : l.length < 2 ∨ rightB (l.getD 0 0) (l.getD 1 0) = false) :
    Calls Try.prog 21 #[.pointer (some ⟨b, 0, none⟩)] w fun e w' => ∃ A1 n1 c1 A' n' c' l' e1, e = .returned (.slice A1 n1 c1) ∧ e1 ≠ 0 ∧ Sc w' b A' n' c' l' e1 ∧ Near b w w' := by
  have hl := h.sl.len
  by_cases hn : n < 2
  · have HT := Lib.hid (take_no (k := 2) h hn (by omega))
    rw [show errs 0 2 = 2 from rfl] at HT
    have HK := Lib.hid (fun W => check_good (t := 0) (v := 0) rfl W)
    clear h hl hy
    go_enter Try.func21, Try.ntmps21
    go_wp2_with fail
    refine HT.out.mono ?_
    rintro e w1 ⟨g, rfl, zg1, hgb, hc, hs1, hk1⟩
    have d0 := hc 0 (by omega)
    have d1 := hc 1 (by omega)
    have HR := Lib.hid (show Sc w1 b none 0 0 [] 2 ∧ Near b w w1 from ⟨hs1, hk1⟩)
    clear hs1 hk1 hc
    go_wp2_with fail
    go_region
    go_wp2_with fail
    refine (HK.out _).mono ?_
    rintro e w2 ⟨rfl, hu2⟩
    have hb := hu2.at_ w1.heap.size (by simp)
    have k0 := (hb.1 0).trans (by simp [go_sem] : _ = some (.int .u8 0))
    have k1 := (hb.1 1).trans (by simp [go_sem] : _ = some (.int .u8 0))
    have z2 := hu2.size
    simp at z2
    have hz2 : w1.heap.size < w2.heap.size := by omega
    have HX := Lib.hid (show Sc w2 b none 0 0 [] 2 ∧ Near b w w2 from ⟨(HR.out.1.up ((Up.refl _).alloc _).drew).up hu2, (HR.out.2.up ((Up.refl _).alloc _).drew).up hu2⟩)
    clear hu2 hb d0 d1
    go_wp2_with fail
    go_ret
    exact ⟨_, _, _, _, _, _, _, _, rfl, by omega, HX.out.1.up ((Up.refl _).alloc _), HX.out.2.up ((Up.refl _).alloc _)⟩
  · obtain ⟨x, y, r, rfl⟩ : ∃ x y r, l = x :: y :: r := by
      match l, hl with
      | [], hl => simp at hl; omega
      | [_], hl => simp at hl; omega
      | x :: y :: r, _ => exact ⟨x, y, r, rfl⟩
    have hy : rightB x y = false := by
      rcases hy with hy | hy
      · simp at hy; omega
      · exact hy
    have HT := Lib.hid (take_ok (k := 2) h (by omega) (by omega))
    have HK := Lib.hid (fun W => check_bad hy W)
    obtain ⟨g, off, rfl, zg, hgb, hc0⟩ := h.cell (i := 0) (by omega)
    obtain ⟨g', off', e1, _, _, hc1⟩ := h.cell (i := 1) (by omega)
    obtain ⟨rfl, rfl⟩ : g = g' ∧ off = off' := by injection e1 with e1; injection e1 with e1 e2; exact ⟨e1, e2⟩
    simp only [List.getD_cons_zero, Nat.add_zero, List.getD_cons_succ] at hc0 hc1
    clear h hl hy e1
    go_enter Try.func21, Try.ntmps21
    go_wp2_with fail
    refine HT.out.mono ?_
    rintro e w1 ⟨rfl, ⟨A', hs1⟩, hk1⟩
    have d0 := ((hk1.at_ g zg hgb).1 off).trans hc0
    have d1 := ((hk1.at_ g zg hgb).1 (off + 1)).trans hc1
    have zg1 := cell_lt d0
    simp only at zg1
    have HR := Lib.hid (show Sc w1 b A' _ _ r 0 ∧ Near b w w1 from ⟨hs1, hk1⟩)
    clear hs1 hk1
    go_wp2_with fail
    have zw := HR.out.2.size
    go_region
    go_wp2_with fail
    refine (HK.out _).mono ?_
    rintro e w2 ⟨rfl, hu2⟩
    have hb := hu2.at_ w1.heap.size (by simp)
    have k0 := (hb.1 0).trans (by simp [go_sem] : _ = some (.int .u8 x))
    have k1 := (hb.1 1).trans (by simp [go_sem] : _ = some (.int .u8 y))
    have f0 := (hb.2 0).trans (by simp [go_sem] : _ = false)
    have z2 := hu2.size
    simp at z2
    have hz2 : w1.heap.size < w2.heap.size := by omega
    have HX := Lib.hid (show Sc w2 b A' _ _ r 0 ∧ Near b w w2 from ⟨(HR.out.1.up ((Up.refl _).alloc _).drew).up hu2, (HR.out.2.up ((Up.refl _).alloc _).drew).up hu2⟩)
    have HF := Lib.hid (sfail_is 10 HX.out.1)
    rw [show errs 0 10 = 10 from rfl] at HF
    have zbn := hb.1
    have hnb : w1.heap.size ≠ b := by have := HR.out.1.lt; omega
    clear hu2 hb d0 d1 zbn
    go_wp2_with fail
    refine HF.out.mono ?_
    rintro e w3 ⟨rfl, hs3, hk3⟩
    have j0 := ((hk3.at_ w1.heap.size hz2 hnb).1 0).trans k0
    have j1 := ((hk3.at_ w1.heap.size hz2 hnb).1 1).trans k1
    have hz3 : w1.heap.size < w3.heap.size := by have := hk3.size; omega
    have HY := Lib.hid (show Sc w3 b A' _ _ r 10 ∧ Near b w w3 from ⟨hs3, HX.out.2.trans hk3⟩)
    clear hs3 hk3 k0 k1
    go_wp2_with fail
    go_ret
    exact ⟨_, _, _, _, _, _, _, _, rfl, by omega, HY.out.1.up ((Up.refl _).alloc _), HY.out.2.up ((Up.refl _).alloc _)⟩
end Go.Proofs.Ytahlilogobfhcaa
