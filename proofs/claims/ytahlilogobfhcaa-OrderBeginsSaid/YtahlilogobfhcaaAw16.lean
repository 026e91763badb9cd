/-
  The law's awake; the document's Is. No condition.
-/
import Derived.Test.YtahlilogobfhcaaOrd11
namespace Go.Proofs.Ytahlilogobfhcaa
open Go.RowKit
set_option linter.unusedVariables false
set_option linter.unusedSimpArgs false

/-- an order's cells, at a place of a block -/
structure OrAt (W : World) (g off : Nat) (x : OR) : Prop where
  c0 : W.cell? ⟨g, off, none⟩ = some (.int .i64 x.o.kind)
  c1 : W.cell? ⟨g, off + 1, none⟩ = some (.int .i64 x.o.addr)
  c2 : W.cell? ⟨g, off + 2, none⟩ = some (.int .u8 x.o.code)
  c3 : W.cell? ⟨g, off + 3, none⟩ = some (.bool x.o.graph)
  c4 : W.cell? ⟨g, off + 4, none⟩ = some (.int .u8 x.o.fa)
  c5 : W.cell? ⟨g, off + 5, none⟩ = some (.slice x.Ap x.np x.cp)
  c6 : W.cell? ⟨g, off + 6, none⟩ = some (.slice x.At x.nt x.ct)
theorem OLs.form {B : Nat} {w : World} {A : Option Addr} {c : Nat} {xs : List OR} (h : OLs B w A c xs) (hx : 0 < xs.length) : ∃ g, A = some ⟨g, 0, none⟩ ∧ B ≤ g ∧ g < w.heap.size := by
  rcases h.own.2 with ⟨_, h0⟩ | ⟨g, cap, cur, e1, e2, e3, _⟩
  · omega
  · injection e1 with e1 _ _
    exact ⟨g, e1, e2, (Array.getElem?_eq_some_iff.1 e3).1⟩
theorem flat_at {xs : List OR} {i j : Nat} {x : OR} {v : Value} (hi : xs[i]? = some x) (hj : x.cells[j]? = some v) : (xs.flatMap OR.cells)[i * 7 + j]? = some v := by
  induction xs generalizing i with
  | nil => simp at hi
  | cons y xs ih =>
    have hj7 : j < 7 := by
      have := (List.getElem?_eq_some_iff.1 hj).1
      rw [OR.cells_len] at this
      exact this
    cases i with
    | zero =>
      simp at hi
      subst hi
      rw [List.flatMap_cons, Nat.zero_mul, Nat.zero_add, List.getElem?_append_left (by rw [OR.cells_len]; exact hj7)]
      exact hj
    | succ i =>
      rw [List.flatMap_cons, List.getElem?_append_right (by rw [OR.cells_len]; omega), OR.cells_len, show (i + 1) * 7 + j - 7 = i * 7 + j by omega]
      exact ih (by simpa using hi)
theorem OLs.at_ {B : Nat} {w : World} {g c : Nat} {xs : List OR} (h : OLs B w (some ⟨g, 0, none⟩) c xs) {i : Nat} {x : OR} (hi : xs[i]? = some x) : OrAt w g (i * 7) x := by
  have hr := Reads.of_own h.own
  obtain ⟨g', off, e, hb, hc⟩ := hr.2 (by have := (List.getElem?_eq_some_iff.1 hi).1; omega)
  injection e with e
  injection e with e1 e2
  subst e1 e2
  have hj : ∀ j v, x.cells[j]? = some v → w.cell? ⟨g, i * 7 + j, none⟩ = some v := fun j v hv => by
    have := hc (i * 7 + j) v (flat_at hi hv)
    rwa [Nat.zero_add] at this
  exact ⟨hj 0 _ rfl, hj 1 _ rfl, hj 2 _ rfl, hj 3 _ rfl, hj 4 _ rfl, hj 5 _ rfl, hj 6 _ rfl⟩
theorem aw_ords : ordsOf [17, 64, 64, 29, 96, 193] = ([⟨17, 0, 0, false, 0, [], []⟩, ⟨29, 0, 0, false, 96, [], []⟩, ⟨0, 0, 0, false, 0, [], [193]⟩], []) := by kernel_rfl
theorem sl_lit6 (w : World) (a b c d e f : Int) (hb : BL [a, b, c, d, e, f]) : Sl 0 (w.alloc (.cells #[.int .u8 a, .int .u8 b, .int .u8 c, .int .u8 d, .int .u8 e, .int .u8 f] 5)) (some ⟨w.heap.size, 0, none⟩) 6 6 [a, b, c, d, e, f] :=
  ⟨(reads_at w w.heap.size 1 6 #[.int .u8 a, .int .u8 b, .int .u8 c, .int .u8 d, .int .u8 e, .int .u8 f] 5 rfl rfl).more (show w.heap.size + 1 ≤ (w.alloc _).heap.size by simp), Nat.le_refl _, by simp [maxLen], fun p hp => Nat.zero_le _, by omega, hb, fun p hp => (by injection hp with hp; subst hp; exact ⟨#[.int .u8 a, .int .u8 b, .int .u8 c, .int .u8 d, .int .u8 e, .int .u8 f], _, by show (w.heap.push _)[w.heap.size]? = _; rw [Array.getElem?_push_size]⟩)⟩
theorem map3 {xs : List OR} {a b c : OpP} (h : xs.map OR.o = [a, b, c]) : ∃ x y z, xs = [x, y, z] ∧ x.o = a ∧ y.o = b ∧ z.o = c := by
  simp only [List.map_eq_cons_iff, List.map_eq_nil_iff] at h
  obtain ⟨x, l, rfl, hx, y, l2, rfl, hy, z, l3, rfl, hz, rfl⟩ := h
  exact ⟨x, y, z, rfl, hx, hy, hz⟩
set_option maxHeartbeats 1600000 in
theorem awake16 (w : World) : Calls Try.prog 5 #[] w fun e w' => e = .returned (.bool true) ∧ Up w w' := by
  have HA := Lib.hid (all_is (sl_lit6 w 17 64 64 29 96 193 (by intro x hx; simp at hx; omega)))
  rw [aw_ords] at HA
  go_enter Try.func5, Try.ntmps5
  go_wp2_with fail
  refine HA.out.mono ?_
  rintro e w1 ⟨A1, c1, xs, x, rfl, hol, hm, hx, hu⟩
  obtain rfl : x = 0 := by simpa using hx
  clear hx
  obtain ⟨x0, x1, x2, rfl, m0, m1, m2⟩ := map3 hm
  · obtain ⟨g, rfl, hg, hz⟩ := hol.form (by simp)
    have t0 := hol.at_ (i := 0) rfl
    have t1 := hol.at_ (i := 1) rfl
    have t2 := hol.at_ (i := 2) rfl
    have hn := (hol.txs x2 (by simp)).len
    have k0 := t0.c0
    have k1 := t0.c1
    have k4 := t1.c4
    have k6 := t2.c6
    rw [m0] at k0 k1
    rw [m1] at k4
    rw [m2] at hn
    simp at hn
    rw [← hn] at k6
    simp only [List.length_cons, List.length_nil, Nat.reduceAdd, Nat.zero_mul, Nat.one_mul, Nat.reduceMul, Nat.zero_add] at k0 k1 k4 k6 ⊢
    have HU := Lib.hid (((Up.refl w).alloc _).trans hu)
    clear hu t0 t1 t2 hn hol m0 m1 m2
    go_wp2_with fail
    go_ret
    exact ⟨rfl, HU.out⟩
set_option maxHeartbeats 800000 in
theorem ris_is {x : Int} (h : 0 ≤ x ∧ x ≤ 255) (w : World) :
    Calls Try.prog 9 #[.int .u8 x] w fun e w' => e = .returned (.bool (isOrd x)) ∧ Up w w' := by
  have ht := isOrd_tab h
  obtain ⟨h0, h1⟩ := h
  have HN := Lib.hid (fun w => rname_is x w)
  generalize nm16 x = s at *
  cases e0 : (x != 0)
  · rw [e0] at ht
    have ht' : isOrd x = false := by rw [← ht]; rfl
    rw [ht']
    clear ht ht'
    go_enter Try.func9, Try.ntmps9
    go_wp2
    go_ret
    exact ⟨rfl, Up.refl _⟩
  · rw [e0] at ht
    have ht' : isOrd x = !s.toList.isEmpty := by rw [← ht]; rfl
    rw [ht']
    clear ht ht'
    go_enter Try.func9, Try.ntmps9
    go_wp2_with fail
    refine (HN.out _).mono ?_
    rintro e w1 ⟨rfl, hu⟩
    have HU := Lib.hid hu
    clear hu
    go_wp2_with fail
    go_ret
    exact ⟨rfl, HU.out⟩
set_option maxHeartbeats 800000 in
theorem law_names (k b : Int) (w : World) (k0 : -9223372036854775808 ≤ k) (k1 : k ≤ 9223372036854775807) (b0 : 0 ≤ b) (b1 : b ≤ 255) :
    Calls Try.prog 3 #[.int .i64 k, .int .u8 b] w fun e w' => e = .returned (.bool true) ∧ Up w w' := by
  have HN := Lib.hid (fun w => oname_is k w)
  have HR := Lib.hid (fun w => rname_is k w)
  have HI := Lib.hid (fun w => is_is ⟨b0, b1⟩ w)
  have HJ := Lib.hid (fun w => ris_is ⟨b0, b1⟩ w)
  generalize nm16 k = s at *
  generalize isOrd b = t at *
  go_enter Try.func3, Try.ntmps3
  go_wp2_with fail
  refine (awake16 _).mono ?_
  rintro e w0 ⟨rfl, hu0⟩
  go_wp2_with fail
  refine (HN.out _).mono ?_
  rintro e w1 ⟨rfl, rfl⟩
  go_wp2_with fail
  refine (HR.out _).mono ?_
  rintro e w2 ⟨rfl, hu2⟩
  have et : (t == t) = true := by simp
  go_wp2_with fail
  refine (HI.out _).mono ?_
  rintro e w3 ⟨rfl, rfl⟩
  go_wp2_with fail
  refine (HJ.out _).mono ?_
  rintro e w4 ⟨rfl, hu4⟩
  go_wp2_with fail
  go_ret
  exact ⟨rfl, (hu0.trans hu2).trans hu4⟩
end Go.Proofs.Ytahlilogobfhcaa
