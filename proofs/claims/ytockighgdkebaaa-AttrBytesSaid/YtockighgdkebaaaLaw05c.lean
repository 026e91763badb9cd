/-
  The walk of AttrParses: whatever the bytes, it returns true. No condition.
-/
import Derived.Test.YtockighgdkebaaaAttr5
import Derived.Test.YtockighgdkebaaaLaw05a
namespace Go.Proofs.Ytockighgdkebaaa
open Go.RowKit
set_option linter.unusedVariables false
set_option linter.unusedSimpArgs false

theorem pairs_len (l : List Int) (k : Nat) : (pairs l k).length = k := by simp [pairs]
theorem good_or (L : List (Int × Int)) : (∀ p ∈ L, goodB p = true) ∨ ∃ p ∈ L, goodB p = false := by
  induction L with
  | nil => exact .inl (by simp)
  | cons p L ih =>
    cases h : goodB p
    · exact .inr ⟨p, by simp, h⟩
    · rcases ih with ih | ⟨q, hq, ih⟩
      · exact .inl (by simpa [h] using ih)
      · exact .inr ⟨q, by simp [hq], ih⟩
theorem PPost.good {base E : Nat} {L : List (Int × Int)} {w w' : World} {e : Ending} (h : PPost base E L w e w') (hg : ∀ p ∈ L, goodB p = true) :
    ∃ A c, e = .returned (.tuple #[.slice A L.length c, .int .i64 (1 + 2 * (L.length : Int)), .int .i64 0]) ∧ Up w w' ∧ w'.ownsRow base E 2 (.slice A L.length c) L.length (ps L) ∧ L.length ≤ c ∧ c ≤ maxLen := by
  obtain ⟨hu, ⟨A, c, he, ho, h1, h2, _⟩ | ⟨_, p, hp, hb⟩⟩ := h
  · exact ⟨A, c, he, hu, ho, h1, h2⟩
  · rw [hg p hp] at hb; cases hb
theorem PPost.bad {base E : Nat} {L : List (Int × Int)} {w w' : World} {e : Ending} (h : PPost base E L w e w') (hg : ∃ p ∈ L, goodB p = false) :
    e = .returned (.tuple #[.slice none 0 0, .int .i64 0, .int .i64 10]) ∧ Up w w' := by
  obtain ⟨hu, ⟨A, c, he, ho, h1, h2, hall⟩ | ⟨he, _⟩⟩ := h
  · obtain ⟨p, hp, hb⟩ := hg
    rw [hall p hp] at hb; cases hb
  · exact ⟨he, hu⟩

set_option maxHeartbeats 1600000 in
theorem law_parses (A : Option Addr) (n c : Nat) (l : List Int) (w : World) (hl : l.length = n) (hn : n ≤ c) (hc : c ≤ maxLen) (hw : ∀ x ∈ l, 0 ≤ x ∧ x ≤ 255) (hr : Reads w w.heap.size 1 A n (l.map (Value.int .u8))) :
    Calls Try.prog 5 #[.slice A n c] w fun e w' => e = .returned (.bool true) ∧ Up w w' := by
  have hm : c ≤ 9223372036854775807 := by simpa [maxLen] using hc
  go_enter Try.func5, Try.ntmps5
  go_wp2_with fail
  refine (awake05 _).mono ?_
  rintro e w1 ⟨rfl, u1⟩
  go_wp2_with fail
  refine (cut_any _ _ _ l _ _ (hr.up u1) hn hc (by omega) (by omega)).mono ?_
  rintro e w2 ⟨A1, n1, c1, rfl, hn1, ho1, hle1, hmx1, u2⟩
  have h600 : n1 ≤ 600 := by omega
  clear hn1
  have hw1 : ∀ x ∈ l.take (600 : Int).toNat, 0 ≤ x ∧ x ≤ 255 := fun x hx => hw x (List.mem_of_mem_take hx)
  generalize l.take (600 : Int).toNat = l1 at *
  have hr1 := Reads.of_own ho1
  have hl1 : l1.length = n1 := by simpa [bs] using hr1.1
  go_wp2_with fail
  refine (copy_any _ _ _ l1 _ hr1 (by omega)).mono ?_
  rintro e w3 ⟨A2, c2, rfl, ho2, hle2, hmx2, u3⟩
  have hr2 := Reads.of_own ho2
  have hr13 := hr1.up u3
  have hv0 : (l1.getD 0 0) = ((l1.getD 0 0).toNat : Int) := by
    rcases hd : l1 with _ | ⟨x, r⟩
    · rfl
    · have := (hw1 x (by rw [hd]; simp)).1
      simp; omega
  go_wp2_with fail
  by_cases hs : n1 < 1 + 2 * (l1.getD 0 0).toNat
  · clear hv0
    refine (parse_short _ _ _ l1 _ hr2 hw1 (by omega) hs).mono ?_
    rintro e w' ⟨rfl, rfl⟩
    go_wp2_with fail
    refine (ref_parse_short _ _ _ l1 _ hr13 hw1 (by omega) hs).mono ?_
    rintro e w' ⟨rfl, rfl⟩
    go_wp2_with fail
    refine (back_any _ _ _ [] _ Reads.none_ (by omega)).mono ?_
    rintro e w4 ⟨A4, c4, rfl, ho4, hle4, hmx4, u4⟩
    go_wp2_with fail
    refine (equal_any _ _ _ _ _ _ [] [] _ (Reads.of_own ho4) Reads.none_ (by omega) (by omega)).mono ?_
    rintro e w5 ⟨rfl, u5⟩
    go_wp2_with fail
    refine (same_any _ _ _ _ _ _ _ _ l1 l1 _ ((hr2.up u4).up u5) ((hr13.up u4).up u5) hw1 hw1).mono ?_
    rintro e w' ⟨rfl, rfl⟩
    go_wp2
    go_ret
    exact ⟨by simp, by (repeat (first | with_reducible exact Up.refl _ | with_reducible refine Up.alloc ?_ _ | with_reducible refine Up.drew ?_ | with_reducible refine Up.drewN ?_ _ | with_reducible refine Up.setCell ?_ (by (try simp) <;> omega) _ | with_reducible assumption | with_reducible refine Up.trans ?_ (by assumption)))⟩
  · generalize hk : (l1.getD 0 0).toNat = k at *
    have hk' := hv0.symm
    have HK := Lib.hid hk
    clear hk hv0
    rcases good_or (pairs l1 k) with hg | hg
    · have hkl : (pairs l1 k).length ≤ 300 := by rw [pairs_len]; omega
      refine (parse_any _ _ _ l1 _ hr2 hw1 (by omega) k hk' (by omega)).mono ?_
      intro e w4 hp
      obtain ⟨A4, c4, rfl, u4, ho4, hle4, hmx4⟩ := hp.good hg
      go_wp2_with fail
      refine (ref_parse_any _ _ _ l1 _ (hr13.up u4) hw1 (by omega) k hk' (by omega)).mono ?_
      intro e w5 hp
      obtain ⟨A5, c5, rfl, u5, ho5, hle5, hmx5⟩ := hp.good hg
      generalize pairs l1 k = L at *
      go_wp2_with fail
      refine (back_any _ _ _ L _ ((Reads.of_own ho4).up u5) (by omega)).mono ?_
      rintro e w6 ⟨A6, c6, rfl, ho6, hle6, hmx6, u6⟩
      go_wp2_with fail
      refine (equal_any _ _ _ _ _ _ L L _ (Reads.of_own ho6) ((Reads.of_own ho5).up u6) (by omega) (by omega)).mono ?_
      rintro e w7 ⟨rfl, u7⟩
      go_wp2_with fail
      refine (same_any _ _ _ _ _ _ _ _ l1 l1 _ ((((hr2.up u4).up u5).up u6).up u7) ((((hr13.up u4).up u5).up u6).up u7) hw1 hw1).mono ?_
      rintro e w' ⟨rfl, rfl⟩
      go_wp2
      go_ret
      exact ⟨by simp, by (repeat (first | with_reducible exact Up.refl _ | with_reducible refine Up.alloc ?_ _ | with_reducible refine Up.drew ?_ | with_reducible refine Up.drewN ?_ _ | with_reducible refine Up.setCell ?_ (by (try simp) <;> omega) _ | with_reducible assumption | with_reducible refine Up.trans ?_ (by assumption)))⟩
    · refine (parse_any _ _ _ l1 _ hr2 hw1 (by omega) k hk' (by omega)).mono ?_
      intro e w4 hp
      obtain ⟨rfl, u4⟩ := hp.bad hg
      go_wp2_with fail
      refine (ref_parse_any _ _ _ l1 _ (hr13.up u4) hw1 (by omega) k hk' (by omega)).mono ?_
      intro e w5 hp
      obtain ⟨rfl, u5⟩ := hp.bad hg
      go_wp2_with fail
      refine (back_any _ _ _ [] _ Reads.none_ (by omega)).mono ?_
      rintro e w6 ⟨A6, c6, rfl, ho6, hle6, hmx6, u6⟩
      go_wp2_with fail
      refine (equal_any _ _ _ _ _ _ [] [] _ (Reads.of_own ho6) Reads.none_ (by omega) (by omega)).mono ?_
      rintro e w7 ⟨rfl, u7⟩
      go_wp2_with fail
      refine (same_any _ _ _ _ _ _ _ _ l1 l1 _ ((((hr2.up u4).up u5).up u6).up u7) ((((hr13.up u4).up u5).up u6).up u7) hw1 hw1).mono ?_
      rintro e w' ⟨rfl, rfl⟩
      go_wp2
      go_ret
      exact ⟨by simp, by (repeat (first | with_reducible exact Up.refl _ | with_reducible refine Up.alloc ?_ _ | with_reducible refine Up.drew ?_ | with_reducible refine Up.drewN ?_ _ | with_reducible refine Up.setCell ?_ (by (try simp) <;> omega) _ | with_reducible assumption | with_reducible refine Up.trans ?_ (by assumption)))⟩
end Go.Proofs.Ytockighgdkebaaa
