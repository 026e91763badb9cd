/-
What attr's Parse and the reference's Parse compute. No condition but the slice's own reach.
The scanner's pair, pairs. No condition but the slice's own reach.
The scanner's pairs. No condition but the slice's own reach.
-/
import Derived.Test.YtamfjgioajmnpaaGreatDoorJa13
import Derived.Test.YtamfjgioajmnpaaGreatDoorJa1
import Derived.BigRegion
import Derived.RegionTactic
namespace Go.Proofs.YtamfjgioajmnpaaGreatDoor
open Go.RowKit
set_option linter.unusedVariables false
set_option linter.unusedSimpArgs false

def encP (p : Int × Int) : List Value := [.int .u8 p.1, .int .u8 p.2]
def ps (L : List (Int × Int)) : List Value := L.flatMap encP
theorem ps_snoc (L : List (Int × Int)) (p : Int × Int) : ps (L ++ [p]) = ps L ++ [.int .u8 p.1, .int .u8 p.2] := by simp [ps, encP, List.flatMap_append]
def pairAt (l : List Int) (i : Nat) : Int × Int := (l.getD (1 + 2 * i) 0, l.getD (2 + 2 * i) 0)
def pairs (l : List Int) (k : Nat) : List (Int × Int) := (List.range k).map (pairAt l)
theorem pairs_succ (l : List Int) (k : Nat) : pairs l (k + 1) = pairs l k ++ [pairAt l k] := by simp [pairs, List.range_succ]
def goodB (p : Int × Int) : Bool := rightB p.1 p.2
/-- what becomes of the parsed pairs -/
def PPost (base E : Nat) (L : List (Int × Int)) (w : World) (e : Ending) (w' : World) : Prop :=
  Up w w' ∧ ((∃ A c, e = .returned (.tuple #[.slice A L.length c, .int .i64 (1 + 2 * (L.length : Int)), .int .i64 0]) ∧ w'.ownsRow base E 2 (.slice A L.length c) L.length (ps L) ∧ L.length ≤ c ∧ c ≤ maxLen ∧ ∀ p ∈ L, goodB p = true) ∨
    (e = .returned (.tuple #[.slice none 0 0, .int .i64 0, .int .i64 10]) ∧ ∃ p ∈ L, goodB p = false))

theorem info_ap : (Tryz.prog.info? 399).map (fun i => (i.zero, i.size, i.bytes)) = some (some (.agg #[.int .u8 0, .int .u8 0]), 2, 2) := by kernel_rfl

set_option maxHeartbeats 400000 in
theorem parse_short (A : Option Addr) (n c : Nat) (l : List Int) (w : World) (hr : Reads w w.heap.size 1 A n (bs l)) (hl : ∀ x ∈ l, 0 ≤ x ∧ x ≤ 255) (hc : n ≤ 9223372036854775807) (hs : n < 1 + 2 * (l.getD 0 0).toNat) :
    Calls Tryz.prog 423 #[.slice A n c] w fun e w' => e = .returned (.tuple #[.slice none 0 0, .int .i64 0, .int .i64 2]) ∧ w = w' := by
  have hlen : l.length = n := by simpa [bs] using hr.1
  by_cases h0 : n = 0
  · subst h0
    go_enter Tryz.func423, Tryz.ntmps423
    go_wp2
    go_ret3
    exact ⟨rfl, rfl⟩
  · obtain ⟨b, off, rfl, hb, hcell⟩ := hr.2 (by omega)
    have hg : l[0]? = some (l.getD 0 0) := by simp [List.getD, List.getElem?_eq_getElem (show 0 < l.length by omega)]
    have hk := hl (l.getD 0 0) (List.mem_of_getElem? hg)
    have hc0 := hcell 0 (.int .u8 (l.getD 0 0)) (by rw [bs, List.getElem?_map, hg]; rfl)
    rw [Nat.add_zero] at hc0
    generalize l.getD 0 0 = k at hs hk hc0
    clear hcell hr hg
    have t0 : (1 : Int) ≤ (n : Int) := by omega
    have t1 : (n : Int) < (1 : Int) + 2 * k := by omega
    have t2 : (n : Int) - 1 < 2 * k := by omega
    have tz : ((n : Int) == 0) = false := by simp; omega
    go_enter Tryz.func423, Tryz.ntmps423
    go_wp2
    go_ret3
    exact ⟨rfl, rfl⟩

set_option maxRecDepth 100000 in
set_option maxHeartbeats 1600000 in
theorem parse_any (A : Option Addr) (n c : Nat) (l : List Int) (w : World) (hr : Reads w w.heap.size 1 A n (bs l)) (hl : ∀ x ∈ l, 0 ≤ x ∧ x ≤ 255) (hc : n ≤ 9223372036854775807) (k : Nat) (hk : ((k : Nat) : Int) = l.getD 0 0) (hs : 1 + 2 * k ≤ n) :
    Calls Tryz.prog 423 #[.slice A n c] w (PPost w.heap.size 399 (pairs l k) w) := by
  have hlen : l.length = n := by simpa [bs] using hr.1
  obtain ⟨b, off, rfl, hb, hcell⟩ := hr.2 (by omega)
  have hcl : ∀ j, j < n → w.cell? ⟨b, off + j, none⟩ = some (.int .u8 (l.getD j 0)) := fun j hj => hcell j _ (by rw [bs, List.getElem?_map, List.getElem?_eq_getElem (by omega)]; simp [List.getD, List.getElem?_eq_getElem (show j < l.length by omega)])
  have hk0 : k ≤ 255 := by
    have h0 : l.getD 0 0 = l[0]'(by omega) := by simp [List.getD, List.getElem?_eq_getElem (show 0 < l.length by omega)]
    have := (hl _ (List.getElem_mem (show 0 < l.length by omega))).2
    omega
  have hc0 : w.cell? ⟨b, off, none⟩ = some (.int .u8 (k : Int)) := by
    have := hcl 0 (by omega)
    rw [Nat.add_zero, ← hk] at this
    exact this
  have t0 : (1 : Int) ≤ (n : Int) := by omega
  have t1 : (1 : Int) + 2 * (k : Int) ≤ (n : Int) := by omega
  obtain ⟨i0, hi, hz0, hz1, hz2⟩ := info_parts info_ap
  have HK := Lib.hid hk
  clear hk
  clear hcell hr
  have HC := Lib.hid hcl
  clear hcl
  go_enter Tryz.func423, Tryz.ntmps423
  go_wp2
  go_loopw [5, 7] (fun v i wr => ∃ (j : Nat) (A1 : Option Addr) (c1 : Nat), j ≤ k ∧ i = .int .i64 (1 + 2 * (j : Int)) ∧ v = .slice A1 j c1 ∧ wr.ownsRow w.heap.size 399 2 (.slice A1 j c1) j (ps (pairs l j)) ∧ Up w wr ∧ ∀ p ∈ pairs l j, goodB p = true)
    (fun _ i _ => 1 + 2 * k - (intOf i).toNat)
  case atStart => exact ⟨0, none, 0, by omega, rfl, rfl, World.ownsRow_nil _ _ _ _, Up.refl _, by simp [pairs]⟩
  case round =>
    obtain ⟨j, A1, c1, hj, rfl, rfl, hown, hup, hgood⟩ := hrel
    by_cases hlt : j < k
    · have hca : wr.cell? ⟨b, off + (1 + 2 * j), none⟩ = some (.int .u8 (pairAt l j).1) := by
        rw [hup.cells.1 _ _ hb]; exact HC.out _ (by omega)
      have hcb : wr.cell? ⟨b, off + (2 + 2 * j), none⟩ = some (.int .u8 (pairAt l j).2) := by
        rw [hup.cells.1 _ _ hb]; exact HC.out _ (by omega)
      have q1 : (1 : Int) + 2 * (j : Int) < (n : Int) := by omega
      have q2 : (1 : Int) + 2 * (j : Int) + 1 < (n : Int) := by omega
      have q3 : ((1 : Int) + 2 * (j : Int)).toNat = 1 + 2 * j := by omega
      have q4 : ((1 : Int) + 2 * (j : Int) + 1).toNat = 2 + 2 * j := by omega
      have q5 : (0 : Int) ≤ 1 + 2 * (j : Int) := by omega
      have q6 : (0 : Int) ≤ 1 + 2 * (j : Int) + 1 := by omega
      have q7 : IntKind.i64.wrap ((1 : Int) + 2 * (j : Int) + 1) = (1 : Int) + 2 * (j : Int) + 1 := IntWalk.i64_in _ (by omega)
      have hbw : b < wr.heap.size := by have := hup.size; omega
      have hm1 : j + 1 ≤ maxLen := by simp [maxLen]; omega
      cases hg : goodB (pairAt l j)
      · go_wp2
        go_region
        go_wp2_with (go_at_call 414; refine (check_bad hg _).mono ?_; rintro e w3 ⟨rfl, hu3⟩; obtain ⟨bc3, bf3⟩ := hu3.at_ wr.heap.size (by simp))
        go_ret3
        exact ⟨((hup.alloc _).drew).trans hu3, .inr ⟨rfl, pairAt l j, List.mem_map.2 ⟨j, List.mem_range.2 hlt, rfl⟩, hg⟩⟩
      · go_wp2
        go_region
        go_wp2_with (first | (go_at_call 414; refine (check_good hg _).mono ?_; rintro e w3 ⟨rfl, hu3⟩; obtain ⟨bc3, bf3⟩ := hu3.at_ wr.heap.size (by simp)) | (at_builtin; refine wpList_app _ rfl (.tmp 50) (.tmp 52) 396 rfl w.heap.size 399 i0 _ 2 2 Tryz.underlying396 hi hz0 hz1 hz2 rfl (by decide) A1 j c1 _ rfl (own_up hown ((((Up.refl _).alloc _).drew.trans hu3).alloc _)) _ _ 1 1 _ rfl (reads_new _ 2 1 _ _ rfl) (by simp [Value.oneCell']) hm1 (by omega) (by have h1 := hup.size; have h2 := hu3.size; simp at h2 ⊢; omega) ?_; intro A2 c2 w4 hown4 hg4 hle4 hmx4 hbl4))
        go_roundw
        case rel =>
          refine ⟨j + 1, A2, c2, by omega, by go_num, rfl, ?_, (((((hup.alloc _).drew).trans hu3).alloc _).past hbl4), ?_⟩
          · rw [pairs_succ, ps_snoc]; exact hown4
          · rw [pairs_succ]
            intro p hp
            rcases List.mem_append.1 hp with hp | hp
            · exact hgood p hp
            · rw [List.mem_singleton.1 hp]; exact hg
        case measure => simp [intOf]; omega
    · obtain rfl : j = k := by omega
      go_wp2
      go_ret3
      have hl : (pairs l j).length = j := by simp [pairs]
      obtain ⟨_, c', e1, hle, hmx⟩ := own_form hown
      injection e1 with _ _ e1
      subst e1
      refine ⟨hup, .inl ⟨A1, c1, ?_, ?_, ?_, hmx, hgood⟩⟩
      · rw [hl]; rfl
      · rw [hl]; exact hown
      · rw [hl]; exact hle
end Go.Proofs.YtamfjgioajmnpaaGreatDoor
namespace Go.Proofs.YtamfjgioajmnpaaGreatDoor
open Go.RowKit
set_option linter.unusedVariables false
set_option linter.unusedSimpArgs false

/-- the slice A, n, c reads as these pairs; its block, if there is one, is at or above B -/
structure Pr (B : Nat) (w : World) (A : Option Addr) (n c : Nat) (L : List (Int × Int)) : Prop where
  rd : Reads w w.heap.size 2 A n (ps L)
  cap : n ≤ c
  mx : c ≤ maxLen
  at_ : ∀ p, A = some p → B ≤ p.block
  small : n ≤ 65536
  tag : ∀ p, A = some p → ∃ cur q, w.heap[p.block]? = some (.cells cur 399 q)
section
variable {B B' : Nat} {w w' : World} {A : Option Addr} {n c : Nat} {L : List (Int × Int)}
theorem Pr.none_ : Pr B w none 0 0 [] := ⟨Reads.none_, Nat.le_refl _, by simp [maxLen], fun _ h => (by cases h), by omega, fun _ h => (by cases h)⟩
theorem Pr.lt (h : Pr B w A n c L) {p : Addr} (hp : A = some p) : p.block < w.heap.size := by
  obtain ⟨cur, q, e⟩ := h.tag p hp
  exact (Array.getElem?_eq_some_iff.1 e).1
theorem Pr.up (h : Pr B w A n c L) (hu : Up w w') : Pr B w' A n c L := ⟨h.rd.up hu, h.cap, h.mx, h.at_, h.small, fun p hp => by rw [hu.block _ (h.lt hp)]; exact h.tag p hp⟩
theorem Pr.low (h : Pr B w A n c L) (hB : B' ≤ B) : Pr B' w A n c L := ⟨h.rd, h.cap, h.mx, fun p hp => Nat.le_trans hB (h.at_ p hp), h.small, h.tag⟩
theorem Pr.past {E : Nat → Prop} (h : Pr B w A n c L) (hk : Keep E w w') (hE : ∀ p, A = some p → ¬ E p.block) : Pr B w' A n c L :=
  ⟨h.rd.kept hk hE, h.cap, h.mx, h.at_, h.small, fun p hp => by rw [hk.block _ (h.lt hp) (hE p hp)]; exact h.tag p hp⟩
theorem Pr.of_own (h : w.ownsRow B 399 2 (.slice A n c) n (ps L)) (h1 : n ≤ c) (h2 : c ≤ maxLen) (h3 : n ≤ 65536) : Pr B w A n c L :=
  ⟨Reads.of_own h, h1, h2, fun p hp => by
    subst hp
    rcases h.2 with ⟨e1, _⟩ | ⟨g, cap, cur, e1, h6, _⟩
    · cases e1
    · injection e1 with e1 _ _
      injection e1 with e1
      subst e1
      exact h6, h3, fun p hp => by
    subst hp
    rcases h.2 with ⟨e1, _⟩ | ⟨g, cap, cur, e1, h6, h7, _⟩
    · cases e1
    · injection e1 with e1 _ _
      injection e1 with e1
      subst e1
      exact ⟨cur, _, h7⟩⟩
theorem Pr.lit (w : World) (x y : Int) : Pr w.heap.size (w.alloc (.cells #[.int .u8 x, .int .u8 y] 399)) (some ⟨w.heap.size, 0, none⟩) 1 1 [(x, y)] :=
  ⟨(reads_at w w.heap.size 2 1 #[.int .u8 x, .int .u8 y] _ rfl rfl).more (show w.heap.size + 1 ≤ (w.alloc (.cells #[.int .u8 x, .int .u8 y] 399)).heap.size by simp), Nat.le_refl _, by simp [maxLen], fun p hp => (by injection hp with hp; subst hp; exact Nat.le_refl _), by omega, fun p hp => (by injection hp with hp; subst hp; exact ⟨#[.int .u8 x, .int .u8 y], _, by show (w.heap.push _)[w.heap.size]? = _; rw [Array.getElem?_push_size]⟩)⟩
end
set_option maxHeartbeats 1600000 in
theorem pair_ok [QP] {w : World} {b : Nat} {A : Option Addr} {n c : Nat} {x y : Int} {r : List Int} {e0 : Int} (h : Sc w b A n c (x :: y :: r) e0) (hy : rightB x y = true) :
    Calls Tryz.prog 407 #[.pointer (some ⟨b, 0, none⟩)] w fun e w' => ∃ A1, e = .returned (.slice A1 1 1) ∧ Pr w.heap.size w' A1 1 1 [(x, y)] ∧ (∃ A' n' c', Sc w' b A' n' c' r e0) ∧ Near b w w' := by
  have hl := h.sl.len
  simp at hl
  have HT := Lib.hid (take_ok (k := 2) h (by omega) (by omega))
  have HK := Lib.hid (fun W => check_good hy W)
  obtain ⟨g, off, rfl, zg, hgb, hc0⟩ := h.cell (i := 0) (by omega)
  obtain ⟨g', off', e1, _, _, hc1⟩ := h.cell (i := 1) (by omega)
  obtain ⟨rfl, rfl⟩ : g = g' ∧ off = off' := by injection e1 with e1; injection e1 with e1 e2; exact ⟨e1, e2⟩
  simp only [List.getD_cons_zero, Nat.add_zero, List.getD_cons_succ] at hc0 hc1
  clear h hl hy e1
  go_enter Tryz.func407, Tryz.ntmps407
  go_wp2_with fail
  refine HT.out.mono ?_
  rintro e w1 ⟨rfl, ⟨A', hs1⟩, hk1⟩
  have d0 := ((hk1.at_ g zg hgb).1 off).trans hc0
  have d1 := ((hk1.at_ g zg hgb).1 (off + 1)).trans hc1
  have zg1 := cell_lt d0
  simp only at zg1
  have HR := Lib.hid (show Sc w1 b A' _ _ r e0 ∧ Near b w w1 from ⟨hs1, hk1⟩)
  clear hs1 hk1
  go_wp2_with fail
  have zw := HR.out.2.size
  go_region
  go_wp2_with fail
  refine (HK.out _).mono ?_
  rintro e w2 ⟨rfl, hu2⟩
  have hb := hu2.at_ w1.heap.size (by simp)
  have k0 := (hb.1 0).trans (by simp [go_sem] : _ = some (.int .u8 x))
  have k1 := (hb.1 1).trans (by simp [go_sem] : _ = some (.int .u8 y))
  have z2 := hu2.size
  simp at z2
  have hz2 : w1.heap.size < w2.heap.size := by omega
  have HX := Lib.hid (show Sc w2 b A' _ _ r e0 ∧ Near b w w2 from ⟨(HR.out.1.up ((Up.refl _).alloc _).drew).up hu2, (HR.out.2.up ((Up.refl _).alloc _).drew).up hu2⟩)
  clear hu2 hb d0 d1
  go_wp2_with fail
  go_ret
  exact ⟨_, rfl, (Pr.lit w2 x y).low (by omega), ⟨_, _, _, HX.out.1.up ((Up.refl _).alloc _)⟩, HX.out.2.up ((Up.refl _).alloc _)⟩
set_option maxHeartbeats 1600000 in
theorem pair_no [QP] {w : World} {b : Nat} {A : Option Addr} {n c : Nat} {l : List Int} (h : Sc w b A n c l 0) (hy : l.length < 2 ∨ rightB (l.getD 0 0) (l.getD 1 0) = false) :
    Calls Tryz.prog 407 #[.pointer (some ⟨b, 0, none⟩)] w fun e w' => ∃ A1 n1 c1 A' n' c' l' e1, e = .returned (.slice A1 n1 c1) ∧ e1 ≠ 0 ∧ Sc w' b A' n' c' l' e1 ∧ Near b w w' := by
  have hl := h.sl.len
  by_cases hn : n < 2
  · have HT := Lib.hid (take_no (k := 2) h hn (by omega))
    rw [show errs 0 2 = 2 from rfl] at HT
    have HK := Lib.hid (fun W => check_good (t := 0) (v := 0) rfl W)
    clear h hl hy
    go_enter Tryz.func407, Tryz.ntmps407
    go_wp2_with fail
    refine HT.out.mono ?_
    rintro e w1 ⟨g, rfl, zg1, hgb, hc, hs1, hk1⟩
    have d0 := hc 0 (by omega)
    have d1 := hc 1 (by omega)
    have HR := Lib.hid (show Sc w1 b none 0 0 [] 2 ∧ Near b w w1 from ⟨hs1, hk1⟩)
    clear hs1 hk1 hc
    go_wp2_with fail
    go_region
    go_wp2_with fail
    refine (HK.out _).mono ?_
    rintro e w2 ⟨rfl, hu2⟩
    have hb := hu2.at_ w1.heap.size (by simp)
    have k0 := (hb.1 0).trans (by simp [go_sem] : _ = some (.int .u8 0))
    have k1 := (hb.1 1).trans (by simp [go_sem] : _ = some (.int .u8 0))
    have z2 := hu2.size
    simp at z2
    have hz2 : w1.heap.size < w2.heap.size := by omega
    have HX := Lib.hid (show Sc w2 b none 0 0 [] 2 ∧ Near b w w2 from ⟨(HR.out.1.up ((Up.refl _).alloc _).drew).up hu2, (HR.out.2.up ((Up.refl _).alloc _).drew).up hu2⟩)
    clear hu2 hb d0 d1
    go_wp2_with fail
    go_ret
    exact ⟨_, _, _, _, _, _, _, _, rfl, by omega, HX.out.1.up ((Up.refl _).alloc _), HX.out.2.up ((Up.refl _).alloc _)⟩
  · obtain ⟨x, y, r, rfl⟩ : ∃ x y r, l = x :: y :: r := by
      match l, hl with
      | [], hl => simp at hl; omega
      | [_], hl => simp at hl; omega
      | x :: y :: r, _ => exact ⟨x, y, r, rfl⟩
    have hy : rightB x y = false := by
      rcases hy with hy | hy
      · simp at hy; omega
      · exact hy
    have HT := Lib.hid (take_ok (k := 2) h (by omega) (by omega))
    have HK := Lib.hid (fun W => check_bad hy W)
    obtain ⟨g, off, rfl, zg, hgb, hc0⟩ := h.cell (i := 0) (by omega)
    obtain ⟨g', off', e1, _, _, hc1⟩ := h.cell (i := 1) (by omega)
    obtain ⟨rfl, rfl⟩ : g = g' ∧ off = off' := by injection e1 with e1; injection e1 with e1 e2; exact ⟨e1, e2⟩
    simp only [List.getD_cons_zero, Nat.add_zero, List.getD_cons_succ] at hc0 hc1
    clear h hl hy e1
    go_enter Tryz.func407, Tryz.ntmps407
    go_wp2_with fail
    refine HT.out.mono ?_
    rintro e w1 ⟨rfl, ⟨A', hs1⟩, hk1⟩
    have d0 := ((hk1.at_ g zg hgb).1 off).trans hc0
    have d1 := ((hk1.at_ g zg hgb).1 (off + 1)).trans hc1
    have zg1 := cell_lt d0
    simp only at zg1
    have HR := Lib.hid (show Sc w1 b A' _ _ r 0 ∧ Near b w w1 from ⟨hs1, hk1⟩)
    clear hs1 hk1
    go_wp2_with fail
    have zw := HR.out.2.size
    go_region
    go_wp2_with fail
    refine (HK.out _).mono ?_
    rintro e w2 ⟨rfl, hu2⟩
    have hb := hu2.at_ w1.heap.size (by simp)
    have k0 := (hb.1 0).trans (by simp [go_sem] : _ = some (.int .u8 x))
    have k1 := (hb.1 1).trans (by simp [go_sem] : _ = some (.int .u8 y))
    have f0 := (hb.2 0).trans (by simp [go_sem] : _ = false)
    have z2 := hu2.size
    simp at z2
    have hz2 : w1.heap.size < w2.heap.size := by omega
    have HX := Lib.hid (show Sc w2 b A' _ _ r 0 ∧ Near b w w2 from ⟨(HR.out.1.up ((Up.refl _).alloc _).drew).up hu2, (HR.out.2.up ((Up.refl _).alloc _).drew).up hu2⟩)
    have HF := Lib.hid (sfail_is 10 HX.out.1)
    rw [show errs 0 10 = 10 from rfl] at HF
    have zbn := hb.1
    have hnb : w1.heap.size ≠ b := by have := HR.out.1.lt; omega
    clear hu2 hb d0 d1 zbn
    go_wp2_with fail
    refine HF.out.mono ?_
    rintro e w3 ⟨rfl, hs3, hk3⟩
    have j0 := ((hk3.at_ w1.heap.size hz2 hnb).1 0).trans k0
    have j1 := ((hk3.at_ w1.heap.size hz2 hnb).1 1).trans k1
    have hz3 : w1.heap.size < w3.heap.size := by have := hk3.size; omega
    have HY := Lib.hid (show Sc w3 b A' _ _ r 10 ∧ Near b w w3 from ⟨hs3, HX.out.2.trans hk3⟩)
    clear hs3 hk3 k0 k1
    go_wp2_with fail
    go_ret
    exact ⟨_, _, _, _, _, _, _, _, rfl, by omega, HY.out.1.up ((Up.refl _).alloc _), HY.out.2.up ((Up.refl _).alloc _)⟩
end Go.Proofs.YtamfjgioajmnpaaGreatDoor
namespace Go.Proofs.YtamfjgioajmnpaaGreatDoor
open Go.RowKit
set_option linter.unusedVariables false
set_option linter.unusedSimpArgs false

theorem pairs_len16 (l : List Int) (k : Nat) : (pairs l k).length = k := by simp [pairs]
/-- how many pairs are said -/
def numP (l : List Int) : Nat := (l.getD 0 0).toNat
def goodP (l : List Int) : Bool := (pairs l (numP l)).all goodB
theorem numP_le [QP] {W : World} {b : Nat} {A : Option Addr} {n c : Nat} {l : List Int} {e : Int} (h : Sc W b A n c l e) : ((numP l : Nat) : Int) = l.getD 0 0 ∧ numP l ≤ 255 := by
  have := h.sl.byte (i := 0)
  unfold numP
  omega
theorem parse_good [QP] {w : World} {b : Nat} {A : Option Addr} {n c : Nat} {l : List Int} {e0 : Int} (h : Sc w b A n c l e0) (hn : 1 + 2 * numP l ≤ l.length) (hg : goodP l = true) :
    Calls Tryz.prog 423 #[.slice A n c] w fun e w' => ∃ A1 c1, e = .returned (.tuple #[.slice A1 (numP l) c1, .int .i64 ((1 + 2 * numP l : Nat) : Int), .int .i64 0]) ∧ Pr w.heap.size w' A1 (numP l) c1 (pairs l (numP l)) ∧ Up w w' := by
  have hl := h.sl.len
  obtain ⟨e1, e2⟩ := numP_le h
  have hsm := h.sl.small
  refine (parse_any A n c l w h.sl.rd h.sl.bytes (by omega) (numP l) e1 (by omega)).mono ?_
  rintro e w' ⟨hu, ⟨A1, c1, rfl, hown, h1, h2, _⟩ | ⟨_, p, hp, hb⟩⟩
  · rw [pairs_len16] at hown h1 ⊢
    exact ⟨A1, c1, by simp, Pr.of_own hown h1 h2 (by omega), hu⟩
  · exfalso
    have := List.all_eq_true.1 hg p hp
    rw [hb] at this
    cases this
theorem parse_bad [QP] {w : World} {b : Nat} {A : Option Addr} {n c : Nat} {l : List Int} {e0 : Int} (h : Sc w b A n c l e0) (hn : l.length < 1 + 2 * numP l ∨ goodP l = false) :
    Calls Tryz.prog 423 #[.slice A n c] w fun e w' => ∃ x, e = .returned (.tuple #[.slice none 0 0, .int .i64 0, .int .i64 x]) ∧ (x = 2 ∨ x = 10) ∧ Up w w' := by
  have hl := h.sl.len
  obtain ⟨e1, e2⟩ := numP_le h
  have hsm := h.sl.small
  by_cases hs : n < 1 + 2 * numP l
  · refine (parse_short A n c l w h.sl.rd h.sl.bytes (by omega) hs).mono ?_
    rintro e w' ⟨rfl, rfl⟩
    exact ⟨2, rfl, .inl rfl, Up.refl _⟩
  · have hg : goodP l = false := by
      rcases hn with hn | hn
      · omega
      · exact hn
    refine (parse_any A n c l w h.sl.rd h.sl.bytes (by omega) (numP l) e1 (by omega)).mono ?_
    rintro e w' ⟨hu, ⟨A1, c1, rfl, hown, h1, h2, hall⟩ | ⟨rfl, _⟩⟩
    · exfalso
      have : goodP l = true := List.all_eq_true.2 hall
      rw [hg] at this
      cases this
    · exact ⟨10, rfl, .inr rfl, hu⟩
set_option maxHeartbeats 1600000 in
theorem pairs_ok [QP] {w : World} {b : Nat} {A : Option Addr} {n c : Nat} {l : List Int} {e0 : Int} (h : Sc w b A n c l e0) (hn : 1 + 2 * numP l ≤ l.length) (hg : goodP l = true) :
    Calls Tryz.prog 408 #[.pointer (some ⟨b, 0, none⟩)] w fun e w' => ∃ A1 c1, e = .returned (.slice A1 (numP l) c1) ∧ Pr w.heap.size w' A1 (numP l) c1 (pairs l (numP l)) ∧ (∃ A' n' c', Sc w' b A' n' c' (l.drop (1 + 2 * numP l)) e0) ∧ Near b w w' := by
  have hl := h.sl.len
  have HP := Lib.hid (parse_good h hn hg)
  have HT := Lib.hid (fun W (hu : Up w W) => take_ok (k := 1 + 2 * numP l) (h.up hu) (by omega) (by omega))
  obtain ⟨k, hk⟩ : ∃ k : Nat, 1 + 2 * numP l = k := ⟨_, rfl⟩
  rw [hk] at HP HT ⊢
  have c0 := h.c0
  have zb := h.lt
  have HH := Lib.hid h
  generalize numP l = m at *
  generalize pairs l m = L at *
  clear h hl hn hg hk
  go_enter Tryz.func408, Tryz.ntmps408
  go_wp2_with fail
  refine HP.out.mono ?_
  rintro e w1 ⟨A1, c1, rfl, hp, hu⟩
  have HP1 := Lib.hid hp
  have HU1 := Lib.hid hu
  clear hp hu
  go_wp2_with fail
  refine (HT.out _ HU1.out).mono ?_
  rintro e w2 ⟨rfl, ⟨A', hs2⟩, hk2⟩
  have HX := Lib.hid (show Sc w2 b A' _ _ _ e0 ∧ Near b w w2 ∧ Pr w.heap.size w2 A1 m c1 L from ⟨hs2, (Keep.of_up HU1.out).trans hk2, HP1.out.past hk2 (fun p hp e => by have := HP1.out.at_ p hp; omega)⟩)
  clear hs2 hk2
  go_wp2_with fail
  go_ret
  exact ⟨_, _, rfl, HX.out.2.2, ⟨_, _, _, HX.out.1⟩, HX.out.2.1⟩
set_option maxHeartbeats 1600000 in
theorem pairs_no [QP] {w : World} {b : Nat} {A : Option Addr} {n c : Nat} {l : List Int} (h : Sc w b A n c l 0) (hn : l.length < 1 + 2 * numP l ∨ goodP l = false) :
    Calls Tryz.prog 408 #[.pointer (some ⟨b, 0, none⟩)] w fun e w' => ∃ A1 n1 c1 A' n' c' l' e1, e = .returned (.slice A1 n1 c1) ∧ e1 ≠ 0 ∧ Sc w' b A' n' c' l' e1 ∧ Near b w w' := by
  have HP := Lib.hid (parse_bad h hn)
  have c0 := h.c0
  have zb := h.lt
  have HH := Lib.hid h
  clear h hn
  go_enter Tryz.func408, Tryz.ntmps408
  go_wp2_with fail
  refine HP.out.mono ?_
  rintro e w1 ⟨x, rfl, hx, hu⟩
  have HU1 := Lib.hid hu
  have HF := Lib.hid (fun x => sfail_is x (HH.out.up HU1.out))
  clear hu
  rcases hx with rfl | rfl
  all_goals
    go_wp2_with fail
    refine (HF.out _).mono ?_
    rintro e w2 ⟨rfl, hs2, hk2⟩
    have HX := Lib.hid (show Sc w2 b _ _ _ _ _ ∧ Near b w w2 from ⟨hs2, (Keep.of_up HU1.out).trans hk2⟩)
    clear hs2 hk2
    go_wp2_with fail
    go_ret
    exact ⟨_, _, _, _, _, _, _, _, rfl, errs_ne (.inr (by omega)), HX.out.1, HX.out.2⟩
end Go.Proofs.YtamfjgioajmnpaaGreatDoor
