/-
  What the law's back and slices.Equal compute over pairs. Of lists of at most 65536 pairs.
-/
import Derived.Test.YtockighgdkebaaaAttr4
namespace Go.Proofs.Ytockighgdkebaaa
open Go.RowKit
set_option linter.unusedVariables false
set_option linter.unusedSimpArgs false

theorem ps_at (L : List (Int × Int)) (i : Nat) (h : i < L.length) : (ps L)[i * 2]? = some (.int .u8 (L.getD i (0, 0)).1) ∧ (ps L)[i * 2 + 1]? = some (.int .u8 (L.getD i (0, 0)).2) := by
  induction L generalizing i with
  | nil => simp at h
  | cons p L ih =>
    cases i with
    | zero => simp [ps, encP]
    | succ i =>
      have := ih i (by simpa using h)
      rw [show (i + 1) * 2 = i * 2 + 2 by omega]
      simpa [ps, encP, List.flatMap_cons] using this

theorem reads_ps {w : World} {B n : Nat} {b off : Nat} {L : List (Int × Int)} (h : Reads w B 2 (some ⟨b, off, none⟩) n (ps L)) (i : Nat) (hi : i < n) :
    w.cell? ⟨b, off + i * 2, none⟩ = some (.int .u8 (L.getD i (0, 0)).1) ∧ w.cell? ⟨b, off + i * 2 + 1, none⟩ = some (.int .u8 (L.getD i (0, 0)).2) ∧ b < B := by
  have hl : L.length = n := by have := h.1; rw [ps_len] at this; omega
  obtain ⟨b', off', e, hb, hc⟩ := h.2 (by omega)
  injection e with e
  injection e with e1 e2 _
  subst e1; subst e2
  have hp := ps_at L i (by omega)
  exact ⟨hc _ _ hp.1, by rw [Nat.add_assoc]; exact hc _ _ hp.2, hb⟩

set_option maxHeartbeats 800000 in
theorem back_any (A : Option Addr) (n c : Nat) (L : List (Int × Int)) (w : World) (hr : Reads w w.heap.size 2 A n (ps L)) (hn : n ≤ 65536) :
    Calls Try.prog 27 #[.slice A n c] w fun e w' => ∃ A' c', e = .returned (.slice A' n c') ∧ w'.ownsRow w.heap.size 36 2 (.slice A' n c') n (ps L) ∧ n ≤ c' ∧ c' ≤ maxLen ∧ Up w w' := by
  have hl : L.length = n := by have := hr.1; rw [ps_len] at this; omega
  obtain ⟨i0, hi, hz0, hz1, hz2⟩ := info_parts info_rp
  go_enter Try.func27, Try.ntmps27
  go_wp2
  go_loopw [3, 8] (fun v i wr => ∃ (j : Nat) (A1 : Option Addr) (c1 : Nat), j ≤ n ∧ i = .int .i64 (j : Int) ∧ v = .slice A1 j c1 ∧ wr.ownsRow w.heap.size 36 2 (.slice A1 j c1) j (ps (L.take j)) ∧ Up w wr)
    (fun _ i _ => n - (intOf i).toNat)
  case atStart => exact ⟨0, none, 0, by omega, rfl, rfl, World.ownsRow_nil _ _ _ _, Up.refl _⟩
  case round =>
    obtain ⟨j, A1, c1, hj, rfl, rfl, hown, hup⟩ := hrel
    by_cases hlt : j < n
    · obtain ⟨b, off, rfl, hb⟩ := hr.form (by omega)
      obtain ⟨hca, hcb, _⟩ := reads_ps (hr.below hup) j hlt
      have hbw : b < wr.heap.size := by have := hup.size; omega
      have hm1 : j + 1 ≤ maxLen := by simp [maxLen]; omega
      have hts : ps (L.take (j + 1)) = ps (L.take j) ++ [.int .u8 (L.getD j (0, 0)).1, .int .u8 (L.getD j (0, 0)).2] := by
        rw [List.take_succ_eq_append_getElem (by omega), ps_snoc]
        simp [List.getD, List.getElem?_eq_getElem (show j < L.length by omega)]
      have HT := Lib.hid hts
      clear hts
      generalize L.getD j (0, 0) = p at *
      go_wp2_with (at_builtin; refine wpList_app _ rfl (.tmp 12) (.tmp 14) 53 rfl w.heap.size 36 i0 _ 2 2 Try.underlying53 hi hz0 hz1 hz2 rfl (by decide) A1 j c1 _ rfl (own_up hown (((Up.refl _).alloc _).alloc _)) _ _ 1 1 _ rfl (reads_at _ _ 2 1 _ _ rfl (by simp)) (by simp [Value.oneCell']) hm1 (by omega) (by have h1 := hup.size; simp; omega) ?_; intro A2 c2 w4 hown4 hg4 hle4 hmx4 hbl4)
      go_roundw
      case rel =>
        exact ⟨j + 1, A2, c2, by omega, by go_num, rfl, by rw [HT.out]; exact hown4, ((hup.alloc _).alloc _).past hbl4⟩
      case measure => simp [intOf]; omega
    · obtain rfl : j = n := by omega
      go_wp2
      go_ret
      obtain ⟨_, c', e1, hle, hmx⟩ := own_form hown
      injection e1 with _ _ e1
      subst e1
      rw [List.take_of_length_le (by omega)] at hown
      exact ⟨A1, c1, rfl, hown, hle, hmx, hup⟩

theorem pair_ne {L L' : List (Int × Int)} {j : Nat} (h : L.getD j (0, 0) ≠ L'.getD j (0, 0)) : L ≠ L' := fun e => h (by rw [e])
theorem pair_ext {L L' : List (Int × Int)} (hl : L.length = L'.length) (h : ∀ t, t < L.length → L.getD t (0, 0) = L'.getD t (0, 0)) : L = L' := by
  refine List.ext_getElem hl fun t h1 h2 => ?_
  have := h t h1
  simpa [List.getD, List.getElem?_eq_getElem h1, List.getElem?_eq_getElem h2] using this

set_option maxHeartbeats 800000 in
theorem equal_any (A A' : Option Addr) (n n' c c' : Nat) (L L' : List (Int × Int)) (w : World) (hr : Reads w w.heap.size 2 A n (ps L)) (hr' : Reads w w.heap.size 2 A' n' (ps L')) (hn : n ≤ 65536) (hn' : n' ≤ 65536) :
    Calls Try.prog 26 #[.slice A n c, .slice A' n' c'] w fun e w' => e = .returned (.bool (decide (L = L'))) ∧ Up w w' := by
  have hl : L.length = n := by have := hr.1; rw [ps_len] at this; omega
  have hl' : L'.length = n' := by have := hr'.1; rw [ps_len] at this; omega
  by_cases hne : n = n'
  · subst hne
    go_enter Try.func26, Try.ntmps26
    go_wp2
    go_loopw [13] (fun i wr => ∃ j : Nat, j ≤ n ∧ i = .int .i64 (j : Int) ∧ Up w wr ∧ ∀ t, t < j → L.getD t (0, 0) = L'.getD t (0, 0)) (fun i _ => n - (intOf i).toNat)
    case atStart => exact ⟨0, by omega, rfl, Up.refl _, by omega⟩
    case round =>
      obtain ⟨j, hj, rfl, hup, heq⟩ := hrel
      by_cases hlt : j < n
      · obtain ⟨b, off, rfl, hb⟩ := hr.form (by omega)
        obtain ⟨b', off', rfl, hb'⟩ := hr'.form (by omega)
        obtain ⟨ca, cb, _⟩ := reads_ps (hr.below hup) j hlt
        obtain ⟨ca', cb', _⟩ := reads_ps (hr'.below hup) j hlt
        have q1 : (j : Int) < (n : Int) := by omega
        have HE := Lib.hid heq
        clear heq
        generalize hx : L.getD j (0, 0) = p at *
        generalize hy : L'.getD j (0, 0) = p' at *
        have HX := Lib.hid hx
        have HY := Lib.hid hy
        clear hx hy
        obtain ⟨p1, p2⟩ := p
        obtain ⟨r1, r2⟩ := p'
        dsimp only at ca cb ca' cb'
        by_cases d1 : p1 = r1
        · subst d1
          by_cases d2 : p2 = r2
          · subst d2
            go_wp2
            go_quiet (fail)
            go_wp2
            go_roundw
            case rel =>
              refine ⟨j + 1, by omega, by go_num, hup.drewN _, fun t ht => ?_⟩
              rcases Nat.lt_or_ge t j with h | h
              · exact HE.out t h
              · obtain rfl : t = j := by omega
                rw [HX.out, HY.out]
            case measure => simp [intOf]; omega
          · have b2 : (p2 == r2) = false := by simpa using d2
            have hne := pair_ne (L := L) (L' := L') (j := j) (by rw [HX.out, HY.out]; intro e; injection e with _ e; exact d2 e)
            have HN := Lib.hid hne
            clear hne
            go_wp2
            go_quiet (fail)
            go_wp2
            go_ret
            exact ⟨ret_bool (by simp [HN.out]), hup.drewN _⟩
        · have b1 : (p1 == r1) = false := by simpa using d1
          have hne := pair_ne (L := L) (L' := L') (j := j) (by rw [HX.out, HY.out]; intro e; injection e with e _; exact d1 e)
          have HN := Lib.hid hne
          clear hne
          go_wp2
          go_quiet (fail)
          go_wp2
          go_ret
          exact ⟨ret_bool (by simp [HN.out]), hup.drewN _⟩
      · obtain rfl : j = n := by omega
        have hall : L = L' := pair_ext (by omega) (by intro t ht; exact heq t (by omega))
        have HE := Lib.hid hall
        clear hall heq
        go_wp2
        go_ret
        exact ⟨ret_bool (by simp [HE.out]), hup⟩
  · have hd : ((n : Int) == (n' : Int)) = false := by simp; omega
    have hd2 : ((n : Int) != (n' : Int)) = true := by simp; omega
    go_enter Try.func26, Try.ntmps26
    go_wp2
    go_ret
    refine ⟨ret_bool ?_, Up.refl _⟩
    have : L ≠ L' := fun e => hne (by rw [← hl, ← hl', e])
    simp [this]
end Go.Proofs.Ytockighgdkebaaa
