/-
  option's Agreed as an iterator. No condition.
-/
import Derived.Test.YtmnepolfiipfcaaCollU8
import Derived.Test.YtmnepolfiipfcaaOpt8
namespace Go.Proofs.Ytmnepolfiipfcaa
open Go.RowKit
set_option linter.unusedVariables false
set_option linter.unusedSimpArgs false
attribute [local go_sem] Oper.semAt_some

/-- the numbers below n of which f holds -/
def those (f : Nat → Bool) (n : Nat) : List Int := ((List.range n).filter f).map fun o : Nat => (o : Int)
theorem those_succ (f : Nat → Bool) (n : Nat) : those f (n + 1) = if f n then those f n ++ [(n : Int)] else those f n := by
  unfold those
  rw [List.range_succ, List.filter_append]
  by_cases h : f n
  · simp [h]
  · simp [h]
theorem those_pre (f : Nat → Bool) {m n : Nat} (h : m ≤ n) : those f m <+: those f n := by
  induction n with
  | zero => obtain rfl : m = 0 := by omega
            exact List.prefix_refl _
  | succ n ih =>
    rcases Nat.lt_or_ge m (n + 1) with hlt | hge
    · have h1 := ih (by omega)
      rw [those_succ]
      split
      · exact h1.trans (List.prefix_append _ _)
      · exact h1
    · obtain rfl : m = n + 1 := by omega
      exact List.prefix_refl _
theorem those_len (f : Nat → Bool) (n : Nat) : (those f n).length ≤ n := by
  unfold those
  rw [List.length_map]
  exact Nat.le_trans (List.length_filter_le _ _) (by simp)
set_option maxRecDepth 100000 in
set_option maxHeartbeats 3200000 in
theorem agreed_it (mp i : Value) (f : Nat → Bool) (bm bw : Nat) (D : Nat → Prop) (w : World) (hD : ∀ k, D k → k < w.heap.size) (hm : w.cell? ⟨bm, 0, none⟩ = some mp) (hi : w.cell? ⟨bw, 0, none⟩ = some i) (hDm : D bm) (hDw : D bw)
    (hOn : ∀ W, (∀ k, D k → W.heap[k]? = w.heap[k]?) → ∀ o : Nat, o < 256 → Calls Try.prog 13 #[mp, i, .int .u8 (o : Int)] W fun e W' => e = .returned (.bool (f o)) ∧ W = W') :
    ItFor Try.prog 37 #[.pointer (some ⟨bm, 0, none⟩), .pointer (some ⟨bw, 0, none⟩)] (fun x : Int => #[.int .u8 x]) (fun _ => False) D (fun pre x _ => pre ++ [x] <+: those f 256) (· = those f 256) (· <+: those f 256) w := by
  intro n w1 E hu1 hDE l J Jx W hu2 hJ hJx hY h0
  have hsame : ∀ k, D k → W.heap[k]? = w.heap[k]? := fun k hk => ((hu1.trans hu2).block k (hD k hk))
  refine callsIn_of_wp Try.func37 rfl trivial ?_ rfl
  simp only [Try.ntmps37, List.size_toArray, List.length_cons, List.length_nil, Nat.reduceAdd, Nat.reduceSub, Array.replicate_succ, Array.replicate_zero, List.push_toArray, List.append_toArray, List.nil_append, List.cons_append]
  have HS := Lib.hid hsame
  have HY := Lib.hid hY
  have HJ := Lib.hid hJ
  have HJx := Lib.hid hJx
  have HO := Lib.hid hOn
  have H0 := Lib.hid h0
  have HDE := Lib.hid hDE
  have HD := Lib.hid hD
  clear hsame hY hJ hJx hOn h0 hDE hD
  gi_wp2
  gi_loopw [5] (fun q wr => ∃ j : Nat, j ≤ 256 ∧ q = .int .i64 (j : Int) ∧ J (those f j) wr ∧ ∀ k, D k → wr.heap[k]? = w.heap[k]?) (fun q _ => 256 - (intOf q).toNat)
  case atStart => exact ⟨0, by omega, rfl, H0.out, HS.out⟩
  case round =>
    obtain ⟨j, hj, rfl, hJs, hds⟩ := hrel
    have hcm : wr.cell? ⟨bm, 0, none⟩ = some mp := (World.cell?_of_block (hds bm hDm)).trans hm
    have hcw : wr.cell? ⟨bw, 0, none⟩ = some i := (World.cell?_of_block (hds bw hDw)).trans hi
    have HDS := Lib.hid hds
    clear hds
    by_cases hlt : j < 256
    · cases hf : f j
      · have hs := those_succ f j
        rw [hf] at hs
        have HSU := Lib.hid hs
        have HF := Lib.hid hf
        clear hs hf
        gi_wp2_with (refine ⟨trivial, (fun h => by simp [Fence.wide] at h), ?_⟩; gi_at_call 13; refine (callsIn_wide.2 (HO.out _ HDS.out j hlt)).mono ?_; rintro e w' ⟨rfl, rfl⟩; rw [HF.out])
        refine ⟨fun _ h => (by cases h), ?_⟩
        gi_wp2
        go_roundw
        case rel => exact ⟨j + 1, by omega, by go_num, by rw [HSU.out]; exact hJs, HDS.out⟩
        case measure => simp [intOf]; omega
      · have hs := those_succ f j
        rw [hf] at hs
        have HSU := Lib.hid hs
        have HF := Lib.hid hf
        have hp := those_pre f (show j + 1 ≤ 256 by omega)
        rw [hs] at hp
        have HP := Lib.hid hp
        obtain ⟨fn, tmps, assign, body, hy, hR⟩ := HY.out (those f j) (j : Int) wr hJs hp
        clear hs hf hp
        gi_wp2_with (refine ⟨trivial, (fun h => by simp [Fence.wide] at h), ?_⟩; gi_at_call 13; refine (callsIn_wide.2 (HO.out _ HDS.out j hlt)).mono ?_; rintro e w' ⟨rfl, rfl⟩; rw [HF.out])
        refine ⟨fun h => by simp [Fence.wide] at h, ?_⟩
        refine hR.mono ?_
        rintro e W' (⟨rfl, hJ', hk⟩ | ⟨rfl, hJx'⟩)
        · have hds' : ∀ k, D k → W'.heap[k]? = w.heap[k]? := fun k hk' => (hk.low k (by have := HD.out k hk'; have := hu1.size; omega) (HDE.out k hk')).trans (HDS.out k hk')
          have HDS' := Lib.hid hds'
          have HJ' := Lib.hid hJ'
          clear hds' hJ' hk
          gi_wp2
          go_roundw
          case rel => exact ⟨j + 1, by omega, by go_num, by rw [HSU.out]; exact HJ'.out, HDS'.out⟩
          case measure => simp [intOf]; omega
        · have HX := Lib.hid hJx'
          clear hJx'
          gi_wp2
          refine bodyPost_ret (results_none rfl _ _ _) rfl ?_
          exact ⟨⟨_, rfl⟩, .inr ⟨_, HP.out, HX.out⟩⟩
    · obtain rfl : j = 256 := by omega
      have HJS := Lib.hid hJs
      clear hJs
      gi_wp2
      go_end0
      exact ⟨⟨_, rfl⟩, .inl ⟨_, rfl, HJS.out⟩⟩
end Go.Proofs.Ytmnepolfiipfcaa
