/-
  addr's Span as an iterator. No condition.
-/
import Derived.Test.YtejnblncnpfkaaaCollI
import Derived.Test.YtejnblncnpfkaaaSpan
import Derived.Stop.RegionWithIn
namespace Go.Proofs.Ytejnblncnpfkaaa
open Go.RowKit
set_option linter.unusedVariables false
set_option linter.unusedSimpArgs false
attribute [local go_sem] Oper.semAt_some

set_option maxRecDepth 100000 in
set_option maxHeartbeats 1600000 in
theorem span_it {r c f t m a : Int} {n : Nat} {b1 b2 b3 : Nat} {D : Nat → Prop} {w : World} (hD : ∀ k, D k → k < w.heap.size)
    (c0 : w.cell? ⟨b1, 0, none⟩ = some (.int .i64 r)) (c1 : w.cell? ⟨b1, 1, none⟩ = some (.int .i64 c)) (c2 : w.cell? ⟨b2, 0, none⟩ = some (.int .i64 f)) (c3 : w.cell? ⟨b3, 0, none⟩ = some (.int .i64 t)) (hD1 : D b1) (hD2 : D b2) (hD3 : D b3)
    (hn : n ≤ 65536) (ha0 : 0 ≤ a) (ha1 : a ≤ 65536)
    (hLen : ∀ W, Calls Try.prog 39 #[.agg #[.int .i64 r, .int .i64 c], .int .i64 f, .int .i64 t] W fun e W' => e = .returned (.int .i64 (n : Int)) ∧ Up W W')
    (hW1 : 0 < n → ∀ W, Calls Try.prog 14 #[.agg #[.int .i64 r, .int .i64 c], .int .i64 f] W fun e W' => e = .returned (.int .i64 a) ∧ Up W W')
    (hW2 : 0 < n → ∀ (j : Nat) W, Calls Try.prog 14 #[.agg #[.int .i64 r, .int .i64 c], .int .i64 (a + (j : Int))] W fun e W' => e = .returned (.int .i64 ((a + (j : Int)) % m)) ∧ Up W W') :
    ItFor Try.prog 47 #[.pointer (some ⟨b1, 0, none⟩), .pointer (some ⟨b2, 0, none⟩), .pointer (some ⟨b3, 0, none⟩)] (fun x : Int => #[.int .i64 x]) (fun _ => False) D (fun pre x _ => pre ++ [x] <+: placesN a m n) (· = placesN a m n) (· <+: placesN a m n) w := by
  intro k w1 E hu1 hDE l J Jx W hu2 hJ hJx hY h0
  have hsame : ∀ k, D k → W.heap[k]? = w.heap[k]? := fun k hk => ((hu1.trans hu2).block k (hD k hk))
  refine callsIn_of_wp Try.func47 rfl trivial ?_ rfl
  simp only [Try.ntmps47, List.size_toArray, List.length_cons, List.length_nil, Nat.reduceAdd, Nat.reduceSub, Array.replicate_succ, Array.replicate_zero, List.push_toArray, List.append_toArray, List.nil_append, List.cons_append]
  have x0 : W.cell? ⟨b1, 0, none⟩ = some (.int .i64 r) := (World.cell?_of_block (hsame b1 hD1)).trans c0
  have x1 : W.cell? ⟨b1, 1, none⟩ = some (.int .i64 c) := (World.cell?_of_block (hsame b1 hD1)).trans c1
  have x2 : W.cell? ⟨b2, 0, none⟩ = some (.int .i64 f) := (World.cell?_of_block (hsame b2 hD2)).trans c2
  have x3 : W.cell? ⟨b3, 0, none⟩ = some (.int .i64 t) := (World.cell?_of_block (hsame b3 hD3)).trans c3
  have HDL := Lib.hid (fun k (hk : D k) => show k < W.heap.size from by have := hD k hk; have := hu1.size; have := hu2.size; omega)
  have HS := Lib.hid hsame
  have HY := Lib.hid hY
  have HJ := Lib.hid hJ
  have HJx := Lib.hid hJx
  have H0 := Lib.hid h0
  have HDE := Lib.hid hDE
  have HD := Lib.hid hD
  have HLen := Lib.hid hLen
  have HW1 := Lib.hid hW1
  have HW2 := Lib.hid hW2
  have HU1 := Lib.hid hu1.size
  have C0 := Lib.hid c0
  have C1 := Lib.hid c1
  have C2 := Lib.hid c2
  clear hsame hY hJ hJx h0 hDE hD hLen hW1 hW2 c0 c1 c2 c3 hu1 hu2
  gi_wp2_with (refine ⟨trivial, (fun h => by simp [Fence.wide] at h), ?_⟩; gi_at_call 39; refine (callsIn_wide.2 (HLen.out _)).mono ?_; rintro e w2 ⟨rfl, hu2⟩)
  have hds2 : ∀ k, D k → w2.heap[k]? = w.heap[k]? := fun k hk => (hu2.block k (HDL.out k hk)).trans (HS.out k hk)
  have HDS2 := Lib.hid hds2
  have HJ2 := Lib.hid (HJ.out _ _ _ H0.out (Keep.of_up hu2))
  clear hds2 x0 x1 x2 x3
  gi_loopw [5, 10] (fun _ q wr => ∃ j : Nat, j ≤ n ∧ q = .int .i64 (j : Int) ∧ J (placesN a m j) wr ∧ ∀ k, D k → wr.heap[k]? = w.heap[k]?) (fun _ q _ => n - (intOf q).toNat)
  case atStart => exact ⟨0, by omega, rfl, HJ2.out, HDS2.out⟩
  case round =>
    obtain ⟨j, hj, rfl, hJs, hds⟩ := hrel
    have x0 : wr.cell? ⟨b1, 0, none⟩ = some (.int .i64 r) := (World.cell?_of_block (hds b1 hD1)).trans C0.out
    have x1 : wr.cell? ⟨b1, 1, none⟩ = some (.int .i64 c) := (World.cell?_of_block (hds b1 hD1)).trans C1.out
    have x2 : wr.cell? ⟨b2, 0, none⟩ = some (.int .i64 f) := (World.cell?_of_block (hds b2 hD2)).trans C2.out
    have zb1 := cell_lt x0
    have zb2 := cell_lt x2
    have HDS := Lib.hid hds
    have HJS := Lib.hid hJs
    clear hds hJs
    by_cases hlt : j < n
    · have hpos : 0 < n := by omega
      have hs := placesN_succ a m j
      have hp := placesN_pre a m (show j + 1 ≤ n by omega)
      rw [hs] at hp
      have HSU := Lib.hid hs
      have HP := Lib.hid hp
      have q1 : (j : Int) ≤ 65536 := by omega
      clear hs hp
      have HWR := Lib.hid (show IntKind.i64.wrap (a + (j : Int)) = a + (j : Int) by rw [IntKind.wrap_i64]; omega)
      gi_wp2
      gi_region_with (first
        | (refine ⟨trivial, (fun h => by simp [Fence.wide] at h), ?_⟩; gi_at_call 14; have hq : w8.heap.size = w8.heap.size := rfl; clear hq; rw [HWR.out]; (with_reducible refine (callsIn_wide.2 (HW2.out hpos j _)).mono ?_); rintro e w9 ⟨rfl, hu9⟩; have U9 := Lib.hid (show Up wr w9 by (repeat (first | with_reducible exact Up.refl _ | with_reducible refine Up.alloc ?_ _ | with_reducible refine Up.drew ?_ | with_reducible refine Up.drewN ?_ _ | with_reducible refine Up.setCell ?_ (by (try simp) <;> omega) _ | with_reducible assumption | with_reducible refine Up.trans ?_ (by assumption)))); obtain ⟨fn, tmps, assign, body, hy, hR⟩ := HY.out (placesN a m j) ((a + (j : Int)) % m) w9 (HJ.out _ _ _ HJS.out (Keep.of_up U9.out)) HP.out; have HRR := Lib.hid hR; clear hR)
        | (refine ⟨trivial, (fun h => by simp [Fence.wide] at h), ?_⟩; gi_at_call 14; (with_reducible refine (callsIn_wide.2 (HW1.out hpos _)).mono ?_); rintro e w8 ⟨rfl, hu8⟩; have U8 := Lib.hid (show Up wr w8 by (repeat (first | with_reducible exact Up.refl _ | with_reducible refine Up.alloc ?_ _ | with_reducible refine Up.drew ?_ | with_reducible refine Up.drewN ?_ _ | with_reducible refine Up.setCell ?_ (by (try simp) <;> omega) _ | with_reducible assumption | with_reducible refine Up.trans ?_ (by assumption)))); obtain ⟨ca, cf⟩ := U8.out.at_ b1 zb1; have zb8 : b1 < w8.heap.size := (by have := U8.out.size; omega))
        | (refine ⟨fun h => by simp [Fence.wide] at h, ?_⟩; (with_reducible refine HRR.out.mono ?_); rintro e W' hpost; obtain ⟨bb, rfl, hpo2⟩ : ∃ bb, e = .returned (.bool bb) ∧ ((bb = true ∧ J (placesN a m j ++ [(a + (j : Int)) % m]) W' ∧ KpR w1.heap.size W.heap.size E w9 W') ∨ (bb = false ∧ Jx (placesN a m j ++ [(a + (j : Int)) % m]) W')) := (by rcases hpost with ⟨h1, h2, h3⟩ | ⟨h1, h2⟩; exact ⟨true, h1, .inl ⟨rfl, h2, h3⟩⟩; exact ⟨false, h1, .inr ⟨rfl, h2⟩⟩); have HPO := Lib.hid hpo2; clear hpo2 hpost HRR hy))
      all_goals
        have hpo := HPO.out
        clear HPO
        rcases hpo with ⟨rfl, hJ', hk⟩ | ⟨rfl, hJ'⟩
        · have hds' : ∀ k, D k → W'.heap[k]? = w.heap[k]? := fun k hk' => ((hk.low k (by have := HD.out k hk'; have := HU1.out; omega) (HDE.out k hk')).trans (U9.out.block k (by have h1 := HD.out k hk'; have h2 := HDS.out k hk'; rw [Array.getElem?_eq_getElem h1] at h2; exact (Array.getElem?_eq_some_iff.1 h2).1))).trans (HDS.out k hk')
          have HDS' := Lib.hid hds'
          have HJ' := Lib.hid hJ'
          clear hds' hJ' hk
          gi_wp2
          go_roundw
          case rel => exact ⟨j + 1, by omega, by go_num, by rw [HSU.out]; exact HJ'.out, HDS'.out⟩
          case measure => simp [intOf]; omega
        · have HX := Lib.hid hJ'
          clear hJ'
          gi_wp2
          refine bodyPost_ret (results_none rfl _ _ _) rfl ?_
          exact ⟨⟨_, rfl⟩, .inr ⟨_, HP.out, HX.out⟩⟩
    · obtain rfl : j = n := by omega
      gi_wp2
      go_end0
      first | exact ⟨⟨_, rfl⟩, .inl ⟨_, rfl, HJS.out⟩⟩ | exact ⟨⟨_, rfl⟩, .inl HJS.out⟩ | exact .inl HJS.out
end Go.Proofs.Ytejnblncnpfkaaa
