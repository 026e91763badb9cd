/-
  The law's back; the document's Same of two that are alike. Of lists of at most 65536 pairs.
-/
import Derived.Test.YtahlilogobfhcaaAw16
namespace Go.Proofs.Ytahlilogobfhcaa
open Go.RowKit
set_option linter.unusedVariables false
set_option linter.unusedSimpArgs false

theorem Op7.newT (t : TypeId) (w : World) (k a c : Int) (g : Bool) (f : Int) (ps ts : Value) (B : Nat) (hB : B = w.heap.size) : Op7 (w.alloc (.cells #[.int .i64 k, .int .i64 a, .int .u8 c, .bool g, .int .u8 f, ps, ts] t)) B k a c g f ps ts := by
  subst hB
  refine ⟨fun o => by simp [go_sem], by simp, ?_, ?_, ?_, ?_, ?_, ?_, ?_⟩ <;> simp [go_sem]
theorem results_ref {fn : Func} {tmps : Array Value} {w : World} {B : Nat} {k a c : Int} {g : Bool} {f : Int} {ps ts : Value} (hf : fn.results = #[.cell 2 38]) (hp : tmps.getD 2 undef = .pointer (some ⟨B, 0, none⟩)) (h : Op7 w B k a c g f ps ts) :
    (results fn tmps).run Try.prog w = .ok (.agg #[.int .i64 k, .int .i64 a, .int .u8 c, .bool g, .int .u8 f, ps, ts]) w := by
  have hp' : tmps[2]?.getD undef = .pointer (some ⟨B, 0, none⟩) := by simpa using hp
  have hl := run_loadVar_mid (P := Try.prog) w B 0 38 [.int .i64 k, .int .i64 a, .int .u8 c, .bool g, .int .u8 f, ps, ts] _ (fun j v hv => by
    match j, hv with
    | 0, hv => cases hv; exact h.c0
    | 1, hv => cases hv; exact h.c1
    | 2, hv => cases hv; exact h.c2
    | 3, hv => cases hv; exact h.c3
    | 4, hv => cases hv; exact h.c4
    | 5, hv => cases hv; exact h.c5
    | 6, hv => cases hv; exact h.c6) Try.underlying38 rfl (by kernel_rfl)
  simp [results, hf, hp', asAddr, hl]
theorem ps_at (L : List (Int × Int)) (i : Nat) (h : i < L.length) : (ps L)[i * 2]? = some (.int .u8 (L.getD i (0, 0)).1) ∧ (ps L)[i * 2 + 1]? = some (.int .u8 (L.getD i (0, 0)).2) := by
  induction L generalizing i with
  | nil => simp at h
  | cons p L ih =>
    cases i with
    | zero => simp [ps, encP]
    | succ i =>
      have := ih i (by simpa using h)
      rw [show (i + 1) * 2 = i * 2 + 2 by omega]
      simpa [ps, encP, List.flatMap_cons] using this
theorem reads_ps {w : World} {B n : Nat} {b off : Nat} {L : List (Int × Int)} (h : Reads w B 2 (some ⟨b, off, none⟩) n (ps L)) (i : Nat) (hi : i < n) :
    w.cell? ⟨b, off + i * 2, none⟩ = some (.int .u8 (L.getD i (0, 0)).1) ∧ w.cell? ⟨b, off + i * 2 + 1, none⟩ = some (.int .u8 (L.getD i (0, 0)).2) ∧ b < B := by
  have hl : L.length = n := by have := h.1; rw [ps_len] at this; omega
  obtain ⟨b', off', e, hb, hc⟩ := h.2 (by omega)
  injection e with e
  injection e with e1 e2 _
  subst e1; subst e2
  have hp := ps_at L i (by omega)
  exact ⟨hc _ _ hp.1, by rw [Nat.add_assoc]; exact hc _ _ hp.2, hb⟩
theorem own_tag {w : World} {B n c k : Nat} {e : TypeId} {A : Option Addr} {xs : List Value} (h : w.ownsRow B e k (.slice A n c) n xs) : ∀ p, A = some p → ∃ cur q, w.heap[p.block]? = some (.cells cur e q) := fun p hp => by
  subst hp
  rcases h.2 with ⟨e1, _⟩ | ⟨g, cap, cur, e1, h6, h7, _⟩
  · cases e1
  · injection e1 with e1 _ _
    injection e1 with e1
    subst e1
    exact ⟨cur, _, h7⟩
theorem info_r5 : (Try.prog.info? 51).map (fun i => (i.zero, i.size, i.bytes)) = some (some (.agg #[.int .u8 0, .int .u8 0]), 2, 2) := by kernel_rfl
set_option maxHeartbeats 3200000 in
theorem back_is {B : Nat} {k a c : Int} {g : Bool} {f : Int} {Ap : Option Addr} {np cp : Nat} {At : Option Addr} {nt ct : Nat} {L : List (Int × Int)} {w : World} (hp : Pr B w Ap np cp L) :
    Calls Try.prog 12 #[.agg #[.int .i64 k, .int .i64 a, .int .u8 c, .bool g, .int .u8 f, .slice Ap np cp, .slice At nt ct]] w fun e w' => ∃ A' c', e = .returned (.agg #[.int .i64 k, .int .i64 a, .int .u8 c, .bool g, .int .u8 f, .slice A' np c', .slice At nt ct]) ∧ Reads w' w'.heap.size 2 A' np (ps L) ∧ (∀ p, A' = some p → ∃ cur q, w'.heap[p.block]? = some (.cells cur 51 q)) ∧ Up w w' := by
  obtain ⟨i0, hi, hz0, hz1, hz2⟩ := info_parts info_r5
  have hl := hp.len
  have hn := hp.small
  have HP := Lib.hid hp.rd
  have HL := Lib.hid hl
  have hF : ∀ h : 0 < np, ∃ b off, Ap = some ⟨b, off, none⟩ ∧ b < w.heap.size := fun h => hp.rd.form h
  have HFm := Lib.hid hF
  have HB1 := Lib.hid ((Op7.newT 35 w k a c g f (.slice Ap np cp) (.slice At nt ct) w.heap.size rfl))
  have HB3 := Lib.hid (fun W => Op7.newT 38 W k a c g f noS (.slice At nt ct) _ rfl)
  have HB2 := Lib.hid (fun W => Op7.newT 38 W 0 0 0 false 0 noS noS _ rfl)
  clear hp hl hF
  go_enter Try.func12, Try.ntmps12
  go_wp2_with fail
  go_loopw [22] (fun i wr => ∃ (j : Nat) (A1 : Option Addr) (c1 : Nat), j ≤ np ∧ i = .int .i64 (j : Int) ∧ Op7 wr (w.heap.size + 1) 0 0 0 false 0 noS noS ∧ Op7 wr (w.heap.size + 1 + 1) k a c g f (.slice A1 j c1) (.slice At nt ct) ∧ wr.ownsRow (w.heap.size + 1 + 1 + 1) 51 2 (.slice A1 j c1) j (ps (L.take j)) ∧ w.heap.size + 1 + 1 < wr.heap.size ∧ Up w wr)
    (fun i _ => np - (intOf i).toNat)
  case atStart =>
    refine ⟨0, none, 0, by omega, rfl, (Op7.newT 38 _ 0 0 0 false 0 noS noS _ (by simp)).up ((Up.refl _).alloc _), Op7.newT 38 _ k a c g f noS (.slice At nt ct) _ (by simp), World.ownsRow_nil _ _ _ _, by simp, by (repeat (first | with_reducible exact Up.refl _ | with_reducible refine Up.alloc ?_ _ | with_reducible refine Up.drew ?_ | with_reducible refine Up.drewN ?_ _ | with_reducible refine Up.setCell ?_ (by (try simp) <;> omega) _ | with_reducible assumption | with_reducible refine Up.trans ?_ (by assumption)))⟩
  case round =>
    obtain ⟨j, A1, c1, hj, rfl, hb2, hb3, hown, hzr, hup⟩ := hrel
    have HB2 := Lib.hid hb2
    have HB3 := Lib.hid hb3
    have HO := Lib.hid hown
    have HU := Lib.hid hup
    obtain ⟨rf, rlt, r0, r1, r2, r3, r4, r5, r6⟩ := hb2
    obtain ⟨of, olt, o0, o1, o2, o3, o4, o5, o6⟩ := hb3
    by_cases hlt : j < np
    · obtain ⟨b, off, rfl, hb⟩ := HFm.out (by omega)
      obtain ⟨hca, hcb, _⟩ := reads_ps (HP.out.up hup) j hlt
      have hbw : b < wr.heap.size := by have := hup.size; omega
      have hm1 : j + 1 ≤ maxLen := by simp [maxLen]; omega
      have hq : (j : Int) < (np : Int) := by omega
      have hts : ps (L.take (j + 1)) = ps (L.take j) ++ [.int .u8 (L.getD j (0, 0)).1, .int .u8 (L.getD j (0, 0)).2] := by
        rw [List.take_succ_eq_append_getElem (by have := HL.out; omega), ps_snoc]
        simp [List.getD, List.getElem?_eq_getElem (show j < L.length by have := HL.out; omega)]
      have HT := Lib.hid hts
      clear hts hown hup
      generalize L.getD j (0, 0) = p at *
      go_wp2_with (at_builtin; refine wpList_app _ rfl (.tmp 27) (.tmp 29) 36 rfl (w.heap.size + 1 + 1 + 1) 51 i0 _ 2 2 Try.underlying36 hi hz0 hz1 hz2 rfl (by decide) A1 j c1 _ rfl (own_up HO.out (((Up.refl _).alloc _).alloc _)) _ _ 1 1 _ rfl (reads_at _ _ 2 1 _ _ rfl (by simp)) (by simp [Value.oneCell']) hm1 (by omega) (by simp; omega) ?_; intro A2 c2 w4 hown4 hg4 hle4 hmx4 hbl4; have HH3 := Lib.hid ((HB3.out.up (((Up.refl _).alloc (.cells #[.int .u8 p.1, .int .u8 p.2] 50)).alloc (.cells #[.int .u8 p.1, .int .u8 p.2] 51))).keep (keep_below hbl4) (by omega)); obtain ⟨pf, plt, p0, p1, p2, p3, p4, p5, p6⟩ := HH3.out)
      have hal := ((Up.refl wr).alloc (.cells #[.int .u8 p.1, .int .u8 p.2] 50)).alloc (.cells #[.int .u8 p.1, .int .u8 p.2] 51)
      have hkb := keep_below hbl4
      refine ⟨⟨j + 1, A2, c2, by omega, by go_num, ((HB2.out.up hal).keep hkb (by omega)).keep (near_set _ _ _ _) (by omega), HH3.out.s5 _, own_far (by rw [HT.out]; exact hown4) (by simp) _, by simpa using plt, Up.setCell ((HU.out.trans hal).past (hbl4.mono (by omega))) (by simp; omega) _⟩, by simp [intOf]; omega⟩
    · obtain rfl : j = np := by omega
      clear hown hup
      go_wp2_with fail
      obtain ⟨A', c', e1, hle, hmx⟩ := own_form HO.out
      injection e1 with e0 _ e1
      subst e0 e1
      have hk := st7_keep wr (w.heap.size + 1) k a c g f (.slice A1 j c1) (.slice At nt ct) (E := fun k => k = w.heap.size + 1) rfl
      have ho := own_kept HO.out hk (fun k e => by omega)
      rw [List.take_of_length_le (by have := HL.out; omega)] at ho
      refine bodyPost_ret (results_ref rfl rfl (HB2.out.st k a c g f (.slice A1 j c1) (.slice At nt ct))) rfl ?_
      exact ⟨A1, c1, rfl, Reads.of_own ho, own_tag ho, HU.out.keep hk (fun k e => by omega)⟩
end Go.Proofs.Ytahlilogobfhcaa
