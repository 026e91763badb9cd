/-
  The walk of AttrBytes: whatever the attributes and the bytes behind, it returns true. No condition.
-/
import Derived.Test.YtockighgdkebaaaAttr6
namespace Go.Proofs.Ytockighgdkebaaa
open Go.RowKit
set_option linter.unusedVariables false
set_option linter.unusedSimpArgs false

theorem flat_at : ∀ (L : List (Int × Int)) (r : List Int) (i : Nat), i < L.length → (flat L ++ r).getD (2 * i) 0 = (L.getD i (0, 0)).1 ∧ (flat L ++ r).getD (2 * i + 1) 0 = (L.getD i (0, 0)).2
  | [], _, i, h => by simp at h
  | p :: L, r, 0, _ => by simp [flat, List.flatMap_cons]
  | p :: L, r, i + 1, h => by
    have := flat_at L r i (by simpa using h)
    rw [show 2 * (i + 1) = 2 * i + 2 by omega]
    simpa [flat, List.flatMap_cons] using this
theorem pairs_flat (L : List (Int × Int)) (k : Int) (r : List Int) : pairs ((k :: flat L) ++ r) L.length = L := by
  refine pair_ext (by simp [pairs]) fun t ht => ?_
  rw [pairs_len] at ht
  have h := flat_at L r t ht
  rw [pairs, List.getD, List.getElem?_map, List.getElem?_range ht]
  simp only [Option.map_some, Option.getD_some, pairAt, List.cons_append]
  rw [show 1 + 2 * t = 2 * t + 1 by omega, show 2 + 2 * t = 2 * t + 1 + 1 by omega, List.getD_cons_succ, List.getD_cons_succ, h.1, h.2]
theorem flat_wf {L : List (Int × Int)} (h : ∀ p ∈ L, (0 ≤ p.1 ∧ p.1 ≤ 255) ∧ 0 ≤ p.2 ∧ p.2 ≤ 255) : ∀ x ∈ flat L, 0 ≤ x ∧ x ≤ 255 := by
  intro x hx
  simp only [flat, List.mem_flatMap] at hx
  obtain ⟨p, hp, hx⟩ := hx
  have := h p hp
  simp at hx
  rcases hx with rfl | rfl
  · exact this.1
  · exact this.2

set_option maxRecDepth 100000 in
set_option maxHeartbeats 3200000 in
theorem law_bytes (A : Option Addr) (n c : Nat) (L : List (Int × Int)) (Ab : Option Addr) (nb cb : Nat) (lb : List Int) (w : World)
    (hl : L.length = n) (hn : n ≤ c) (hc : c ≤ maxLen) (hw0 : ∀ x ∈ L, 0 ≤ x.1 ∧ x.1 ≤ 255 ∧ 0 ≤ x.2 ∧ x.2 ≤ 255) (hr : Reads w w.heap.size 2 A n (ps L))
    (hlb : lb.length = nb) (hnb : nb ≤ cb) (hcb : cb ≤ maxLen) (hwb : ∀ x ∈ lb, 0 ≤ x ∧ x ≤ 255) (hrb : Reads w w.heap.size 1 Ab nb (lb.map (Value.int .u8))) :
    Calls Try.prog 6 #[.slice A n c, .slice Ab nb cb] w fun e w' => e = .returned (.bool true) ∧ Up w w' := by
  have hw : ∀ x ∈ L, (0 ≤ x.1 ∧ x.1 ≤ 255) ∧ 0 ≤ x.2 ∧ x.2 ≤ 255 := fun x hx => ⟨⟨(hw0 x hx).1, (hw0 x hx).2.1⟩, (hw0 x hx).2.2⟩
  clear hw0
  have hm : c ≤ 9223372036854775807 := by simpa [maxLen] using hc
  obtain ⟨i0, hi, hz0, hz1, hz2⟩ := info_parts info_ap
  go_enter Try.func6, Try.ntmps6
  go_wp2_with fail
  refine (awake05 _).mono ?_
  rintro e w1 ⟨rfl, u1⟩
  have hr1 := hr.up u1
  go_wp2_with fail
  go_loopw [5, 19] (fun v i wr => ∃ (j m : Nat) (A1 : Option Addr) (c1 : Nat), j ≤ n ∧ m = min j 260 ∧ i = .int .i64 (j : Int) ∧ v = .slice A1 m c1 ∧ wr.ownsRow w1.heap.size 40 2 (.slice A1 m c1) m (ps (L.take m)) ∧ Up w1 wr)
    (fun _ i _ => n - (intOf i).toNat)
  case atStart => exact ⟨0, 0, none, 0, by omega, by simp, rfl, rfl, World.ownsRow_nil _ _ _ _, Up.refl _⟩
  case round =>
    obtain ⟨j, m, A1, c1, hj, hmj, rfl, rfl, hown, hup⟩ := hrel
    have HM := Lib.hid hmj
    have hmb : m ≤ 260 := by omega
    have hm1 : m + 1 ≤ maxLen := by simp [maxLen]; omega
    clear hmj
    by_cases hlt : j < n
    · obtain ⟨b, off, rfl, hb⟩ := hr1.form (by omega)
      obtain ⟨hca, hcbb, _⟩ := reads_ps (hr1.below hup) j hlt
      have hbw : b < wr.heap.size := by have := hup.size; omega
      have hts : j = m → ps (L.take (m + 1)) = ps (L.take m) ++ [.int .u8 (L.getD j (0, 0)).1, .int .u8 (L.getD j (0, 0)).2] := by
        rintro rfl
        rw [List.take_succ_eq_append_getElem (by omega), ps_snoc]
        simp [List.getD, List.getElem?_eq_getElem (show j < L.length by omega)]
      have HT := Lib.hid hts
      clear hts
      generalize L.getD j (0, 0) = p at *
      by_cases h260 : j < 260
      · go_wp2_with (at_builtin; refine wpList_app _ rfl (.tmp 26) (.tmp 28) 50 rfl w1.heap.size 40 i0 _ 2 2 Try.underlying50 hi hz0 hz1 hz2 rfl (by decide) A1 m c1 _ rfl (own_up hown (((Up.refl _).alloc _).alloc _)) _ _ 1 1 _ rfl (reads_at _ _ 2 1 _ _ rfl (by simp)) (by simp [Value.oneCell']) hm1 (by omega) (by have h1 := hup.size; simp; omega) ?_; intro A2 c2 w4 hown4 hg4 hle4 hmx4 hbl4)
        go_roundw
        case rel =>
          have hjm : j = m := by have := HM.out; omega
          exact ⟨j + 1, m + 1, A2, c2, by omega, by omega, by go_num, rfl, by rw [HT.out hjm]; exact hown4, ((hup.alloc _).alloc _).past hbl4⟩
        case measure => simp [intOf]; omega
      · go_wp2
        go_roundw
        case rel =>
          exact ⟨j + 1, m, A1, c1, by omega, by have := HM.out; omega, by go_num, rfl, own_up hown ((Up.refl _).alloc _), hup.alloc _⟩
        case measure => simp [intOf]; omega
    · obtain rfl : j = n := by omega
      have hMl : (L.take m).length = m := by rw [List.length_take]; have := HM.out; omega
      have hMw : ∀ p ∈ L.take m, (0 ≤ p.1 ∧ p.1 ≤ 255) ∧ 0 ≤ p.2 ∧ p.2 ≤ 255 := fun p hp => hw p (List.mem_of_mem_take hp)
      have hrM := Reads.of_own hown
      have hrbr := (hrb.up u1).up hup
      generalize L.take m = M at *
      clear HM
      have hup1 := u1.trans hup
      clear hown hr hr1 hrb
      by_cases h255 : 255 < m
      · go_wp2_with fail
        refine (bytes_long _ _ _ _ h255 (by omega)).mono ?_
        rintro e w' ⟨rfl, rfl⟩
        go_wp2_with fail
        refine (back_any _ _ _ M _ hrM (by omega)).mono ?_
        rintro e w2 ⟨A2, c2, rfl, ho2, hle2, hmx2, u2⟩
        go_wp2_with fail
        refine (ref_bytes_long _ _ _ _ h255 (by omega)).mono ?_
        rintro e w' ⟨rfl, rfl⟩
        go_wp2_with fail
        refine (same_any _ _ _ _ _ _ _ _ [] [] _ (Reads.none_ (B := 0)) (Reads.none_ (B := 0)) (by simp) (by simp)).mono ?_
        rintro e w' ⟨rfl, rfl⟩
        go_wp2
        go_ret
        exact ⟨rfl, by (repeat (first | with_reducible exact Up.refl _ | with_reducible refine Up.alloc ?_ _ | with_reducible refine Up.drew ?_ | with_reducible refine Up.drewN ?_ _ | with_reducible refine Up.setCell ?_ (by (try simp) <;> omega) _ | with_reducible assumption | with_reducible refine Up.trans ?_ (by assumption)))⟩
      · rcases good_or M with hg | hg
        · subst hMl
          go_wp2_with fail
          refine (bytes_any _ _ _ M _ hrM (by omega)).mono ?_
          intro e w2 hp
          obtain ⟨A2, c2, rfl, u2, ho2, hle2, hmx2⟩ := hp.good hg
          have hr2 := Reads.of_own ho2
          have hXw : ∀ x ∈ ((M.length : Int) :: flat M), 0 ≤ x ∧ x ≤ 255 := by
            intro x hx
            rcases List.mem_cons.1 hx with rfl | hx
            · omega
            · exact flat_wf hMw x hx
          go_wp2_with fail
          refine (back_any _ _ _ M _ (hrM.up u2) (by omega)).mono ?_
          rintro e w3 ⟨A3, c3, rfl, ho3, hle3, hmx3, u3⟩
          go_wp2_with fail
          refine (ref_bytes_any _ _ _ M _ (Reads.of_own ho3) (by omega)).mono ?_
          intro e w4 hp
          obtain ⟨A4, c4, rfl, u4, ho4, hle4, hmx4⟩ := hp.good hg
          go_wp2_with fail
          refine (same_any _ _ _ _ _ _ _ _ _ _ _ ((hr2.up u3).up u4) (Reads.of_own ho4) hXw hXw).mono ?_
          rintro e w' ⟨rfl, rfl⟩
          have hdec : decide (((M.length : Int) :: flat M) = ((M.length : Int) :: flat M)) = true := by simp
          rw [hdec]
          go_wp2_with fail
          refine (copy_any _ _ _ _ _ ((hr2.up u3).up u4) (by omega)).mono ?_
          rintro e w5 ⟨A5, c5, rfl, ho5, hle5, hmx5, u5⟩
          go_wp2_with fail
          refine (cut_any _ _ _ lb _ _ ((((hrbr.up u2).up u3).up u4).up u5) hnb hcb (by omega) (by omega)).mono ?_
          rintro e w6 ⟨A6, n6, c6, rfl, hn6, ho6, hle6, hmx6, u6⟩
          have hn6b : n6 ≤ 20 := by omega
          clear hn6
          have hrw : ∀ x ∈ lb.take (20 : Int).toNat, 0 ≤ x ∧ x ≤ 255 := fun x hx => hwb x (List.mem_of_mem_take hx)
          generalize lb.take (20 : Int).toNat = r at *
          obtain ⟨i1, hi1, hy0, hy1, hy2⟩ := info_parts info_u8
          go_wp2_with (at_builtin; refine wpList_app _ rfl (.tmp 55) (.tmp 57) 47 rfl w4.heap.size 5 i1 _ 1 1 Try.underlying47 hi1 hy0 hy1 hy2 rfl (by decide) A5 _ c5 _ rfl (own_up ho5 u6) _ A6 n6 c6 _ rfl (Reads.of_own ho6) (one_u8 _) (by simp [maxLen]; omega) (by omega) (by have h1 := u5.size; have h2 := u6.size; omega) ?_; intro A7 c7 w7 hown7 hg7 hle7 hmx7 hbl7)
          have hr7 := Reads.of_own hown7
          have hb7 : w7.heap.size ≥ w6.heap.size := hbl7.size
          have u47 : Up w4 w7 := (u5.trans u6).past hbl7
          have hcat : bs ((M.length : Int) :: flat M) ++ bs r = bs (((M.length : Int) :: flat M) ++ r) := by simp [bs]
          rw [hcat] at hr7
          have hYw : ∀ x ∈ ((M.length : Int) :: flat M) ++ r, 0 ≤ x ∧ x ≤ 255 := by
            intro x hx
            rcases List.mem_append.1 hx with hx | hx
            · exact hXw x hx
            · exact hrw x hx
          refine (parse_any _ _ _ _ _ hr7 hYw (by omega) M.length (by simp) (by omega)).mono ?_
          intro e w8 hp
          rw [pairs_flat] at hp
          obtain ⟨A8, c8, rfl, u8, ho8, hle8, hmx8⟩ := hp.good hg
          have hq : ((1 : Int) + 2 * (M.length : Int) == ((1 + 2 * M.length : Nat) : Int)) = true := by simp
          go_wp2_with fail
          refine (back_any _ _ _ M _ (Reads.of_own ho8) (by omega)).mono ?_
          rintro e w9 ⟨A9, c9, rfl, ho9, hle9, hmx9, u9⟩
          go_wp2_with fail
          refine (back_any _ _ _ M _ ((((((hrM.up u2).up u3).up u4).up u47).up u8).up u9) (by omega)).mono ?_
          rintro e w10 ⟨A10, c10, rfl, ho10, hle10, hmx10, u10⟩
          go_wp2_with fail
          refine (equal_any _ _ _ _ _ _ M M _ ((Reads.of_own ho9).up u10) (Reads.of_own ho10) (by omega) (by omega)).mono ?_
          rintro e w11 ⟨rfl, u11⟩
          go_wp2
          go_ret
          exact ⟨by simp, by (repeat (first | with_reducible exact Up.refl _ | with_reducible refine Up.alloc ?_ _ | with_reducible refine Up.drew ?_ | with_reducible refine Up.drewN ?_ _ | with_reducible refine Up.setCell ?_ (by (try simp) <;> omega) _ | with_reducible assumption | with_reducible refine Up.trans ?_ (by assumption)))⟩
        · go_wp2_with fail
          refine (bytes_any _ _ _ M _ hrM (by omega)).mono ?_
          intro e w2 hp
          obtain ⟨rfl, u2⟩ := hp.bad hg
          go_wp2_with fail
          refine (back_any _ _ _ M _ (hrM.up u2) (by omega)).mono ?_
          rintro e w3 ⟨A3, c3, rfl, ho3, hle3, hmx3, u3⟩
          go_wp2_with fail
          refine (ref_bytes_any _ _ _ M _ (Reads.of_own ho3) (by omega)).mono ?_
          intro e w4 hp
          obtain ⟨rfl, u4⟩ := hp.bad hg
          go_wp2_with fail
          refine (same_any _ _ _ _ _ _ _ _ [] [] _ (Reads.none_ (B := 0)) (Reads.none_ (B := 0)) (by simp) (by simp)).mono ?_
          rintro e w' ⟨rfl, rfl⟩
          go_wp2
          go_ret
          exact ⟨rfl, by (repeat (first | with_reducible exact Up.refl _ | with_reducible refine Up.alloc ?_ _ | with_reducible refine Up.drew ?_ | with_reducible refine Up.drewN ?_ _ | with_reducible refine Up.setCell ?_ (by (try simp) <;> omega) _ | with_reducible assumption | with_reducible refine Up.trans ?_ (by assumption)))⟩
end Go.Proofs.Ytockighgdkebaaa
