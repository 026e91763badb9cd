/-
  The walk of HeaderAnswers: whatever the header and the error, it returns true, where the table of names lies as the program lays it.
-/
import Derived.Test.YtockighgdkebaaaDoorHead4
namespace Go.Proofs.YtockighgdkebaaaDoor
open Go.RowKit
set_option linter.unusedVariables false
set_option linter.unusedSimpArgs false

theorem resp_bs (bad s c : Int) : resp bad s c = 2 :: 0 :: bad :: (s / 256) :: (s % 256) :: [c] := rfl
theorem resp_wf (bad s c : Int) (hb : 0 ≤ bad ∧ bad ≤ 255) (hs : 0 ≤ s ∧ s ≤ 65535) (hc : 0 ≤ c ∧ c ≤ 255) : ∀ x ∈ resp bad s c, 0 ≤ x ∧ x ≤ 255 := by
  intro x hx
  rw [resp_bs] at hx
  simp at hx
  rcases hx with rfl | rfl | rfl | rfl | rfl | rfl <;> omega
theorem same_res {l : List Int} : decide (l = l) = true := by simp

set_option maxHeartbeats 3200000 in
theorem law_answers (t q r s e : Int) (w : World) (t0 : 0 ≤ t) (t1 : t ≤ 255) (_ : 0 ≤ q) (_ : q ≤ 255) (r0 : 0 ≤ r) (r1 : r ≤ 255) (s0 : 0 ≤ s) (s1 : s ≤ 65535) (_ : -9223372036854775808 ≤ e) (_ : e ≤ 9223372036854775807) (hT : TabH w) :
    Calls Tryd.prog 3 #[.agg #[.int .u8 t, .int .u8 q, .int .u8 r, .int .u16 s], .int .i64 e] w fun x w' => x = .returned (.bool true) ∧ Up w w' := by
  by_cases hq : quietH t r e
  · go_enter Tryd.func3, Tryd.ntmps3
    go_wp2_with fail
    refine (awake09 _ (hT.up (by (repeat (first | with_reducible exact Up.refl _ | with_reducible refine Up.alloc ?_ _ | with_reducible refine Up.drew ?_ | with_reducible refine Up.drewN ?_ _ | with_reducible refine Up.setCell ?_ (by (try simp) <;> omega) _ | with_reducible assumption | with_reducible refine Up.trans ?_ (by assumption)))))).mono ?_
    rintro e w1 ⟨rfl, hb_w1⟩
    have hu_w1 : Up w w1 := by (repeat (first | with_reducible exact Up.refl _ | with_reducible refine Up.alloc ?_ _ | with_reducible refine Up.drew ?_ | with_reducible refine Up.drewN ?_ _ | with_reducible refine Up.setCell ?_ (by (try simp) <;> omega) _ | with_reducible assumption | with_reducible refine Up.trans ?_ (by assumption)))
    have hz_w1 := Up.size hb_w1
    try simp at hz_w1
    obtain ⟨bd_w1_0, be_w1_0⟩ := hb_w1.at_ (w.heap.size) (by (try simp) <;> omega)
    have zb_w1_0 : w.heap.size < w1.heap.size := by omega
    go_wp2_with fail
    refine (hanswer_none _ _ _ _ _ _ r0 hq).mono ?_
    rintro e w2 ⟨rfl, hb_w2⟩
    have hu_w2 : Up w1 w2 := by (repeat (first | with_reducible exact Up.refl _ | with_reducible refine Up.alloc ?_ _ | with_reducible refine Up.drew ?_ | with_reducible refine Up.drewN ?_ _ | with_reducible refine Up.setCell ?_ (by (try simp) <;> omega) _ | with_reducible assumption | with_reducible refine Up.trans ?_ (by assumption)))
    have hz_w2 := Up.size hb_w2
    try simp at hz_w2
    obtain ⟨bc_w2_0, bf_w2_0⟩ := hu_w2.at_ (w.heap.size) (by omega)
    have zb_w2_0 : w.heap.size < w2.heap.size := by omega
    go_wp2_with fail
    refine (ref_answer_none _ _ _ _ _ _ r0 hq).mono ?_
    rintro e w3 ⟨rfl, hb_w3⟩
    have hu_w3 : Up w2 w3 := by (repeat (first | with_reducible exact Up.refl _ | with_reducible refine Up.alloc ?_ _ | with_reducible refine Up.drew ?_ | with_reducible refine Up.drewN ?_ _ | with_reducible refine Up.setCell ?_ (by (try simp) <;> omega) _ | with_reducible assumption | with_reducible refine Up.trans ?_ (by assumption)))
    have hz_w3 := Up.size hb_w3
    try simp at hz_w3
    obtain ⟨bc_w3_0, bf_w3_0⟩ := hu_w3.at_ (w.heap.size) (by omega)
    have zb_w3_0 : w.heap.size < w3.heap.size := by omega
    go_wp2_with fail
    refine (same_any _ _ _ _ _ _ _ _ [] [] _ (Reads.none_ (B := 0)) (Reads.none_ (B := 0)) (by simp) (by simp)).mono ?_
    rintro x w' ⟨rfl, rfl⟩
    rw [same_res]
    go_wp2_with fail
    refine (code_any _ _).mono ?_
    rintro x w' ⟨rfl, rfl⟩
    go_wp2_with fail
    refine (ref_code_any _ _).mono ?_
    rintro x w' ⟨rfl, rfl⟩
    go_wp2
    go_ret
    exact ⟨rfl, by (repeat (first | with_reducible exact Up.refl _ | with_reducible refine Up.alloc ?_ _ | with_reducible refine Up.drew ?_ | with_reducible refine Up.drewN ?_ _ | with_reducible refine Up.setCell ?_ (by (try simp) <;> omega) _ | with_reducible assumption | with_reducible refine Up.trans ?_ (by assumption)))⟩
  · have hn : ¬ (t = 2 ∨ t = 6 ∨ r = 0 ∨ 2 < r ∨ (e = 0 ∧ r = 1)) := hq
    have t2 : (t == 2) = false := by simp; omega
    have t6 : (t == 6) = false := by simp; omega
    have hs : 256 * (s / 256) + s % 256 = s := by omega
    have x0 : 0 ≤ s / 256 ∧ s / 256 ≤ 255 ∧ 0 ≤ s % 256 ∧ s % 256 ≤ 255 := by omega
    by_cases he : e = 0
    · subst he
      obtain rfl : r = 2 := by omega
      clear hq hn
      go_enter Tryd.func3, Tryd.ntmps3
      go_wp2_with fail
      refine (awake09 _ (hT.up (by (repeat (first | with_reducible exact Up.refl _ | with_reducible refine Up.alloc ?_ _ | with_reducible refine Up.drew ?_ | with_reducible refine Up.drewN ?_ _ | with_reducible refine Up.setCell ?_ (by (try simp) <;> omega) _ | with_reducible assumption | with_reducible refine Up.trans ?_ (by assumption)))))).mono ?_
      rintro e w1 ⟨rfl, hb_w1⟩
      have hu_w1 : Up w w1 := by (repeat (first | with_reducible exact Up.refl _ | with_reducible refine Up.alloc ?_ _ | with_reducible refine Up.drew ?_ | with_reducible refine Up.drewN ?_ _ | with_reducible refine Up.setCell ?_ (by (try simp) <;> omega) _ | with_reducible assumption | with_reducible refine Up.trans ?_ (by assumption)))
      have hz_w1 := Up.size hb_w1
      try simp at hz_w1
      obtain ⟨bd_w1_0, be_w1_0⟩ := hb_w1.at_ (w.heap.size) (by (try simp) <;> omega)
      have zb_w1_0 : w.heap.size < w1.heap.size := by omega
      go_wp2_with fail
      refine (hanswer_pos _ _ _ _ s0 s1 t2 t6).mono ?_
      rintro x w2 ⟨A2, c2, rfl, hm2, u2⟩
      have hz2 := u2.size
      obtain ⟨bc2, bf2⟩ := u2.at_ w.heap.size (by omega)
      go_wp2_with fail
      refine (ref_answer_pos _ _ _ _ s0 s1 t2 t6).mono ?_
      rintro x w3 ⟨A3, c3, rfl, hm3, u3⟩
      have hz3 := u3.size
      obtain ⟨bc3, bf3⟩ := u3.at_ w.heap.size (by omega)
      have hwf := resp_wf 0 s 0 (by omega) ⟨s0, s1⟩ (by omega)
      have hr2 : Reads w2 w2.heap.size 1 A2 6 (bs (resp 0 s 0)) := hm2.reads
      have hr3 : Reads w3 w3.heap.size 1 A3 6 (bs (resp 0 s 0)) := hm3.reads
      have hle2 : 6 ≤ c2 := hm2.2.1
      go_wp2_with fail
      refine (same_any _ _ _ _ _ _ _ _ _ _ _ (hr2.up u3) hr3 hwf hwf).mono ?_
      rintro x w' ⟨rfl, rfl⟩
      rw [same_res]
      go_wp2_with fail
      refine (code_any _ _).mono ?_
      rintro x w' ⟨rfl, rfl⟩
      go_wp2_with fail
      refine (ref_code_any _ _).mono ?_
      rintro x w' ⟨rfl, rfl⟩
      go_wp2_with fail
      refine (hparse_good _ _ _ _ _ _ _ _ [0] _ (hr2.up u3) hwf (by omega) hle2 hm2.2.2 rfl).mono ?_
      rintro x w4 ⟨A4, c4, rfl, ho4, hle4, hmx4, u4⟩
      rw [hs]
      obtain ⟨bc4, bf4⟩ := u4.at_ w.heap.size (by omega)
      have hz4 := u4.size
      have zb : w.heap.size < w4.heap.size := by omega
      go_wp2
      go_ret
      exact ⟨rfl, by (repeat (first | with_reducible exact Up.refl _ | with_reducible refine Up.alloc ?_ _ | with_reducible refine Up.drew ?_ | with_reducible refine Up.drewN ?_ _ | with_reducible refine Up.setCell ?_ (by (try simp) <;> omega) _ | with_reducible assumption | with_reducible refine Up.trans ?_ (by assumption)))⟩
    · have he' : (e == 0) = false := by simpa using he
      have hr : r = 1 ∨ r = 2 := by omega
      have hcb := codeOf_bd e
      clear hq hn
      go_enter Tryd.func3, Tryd.ntmps3
      go_wp2_with fail
      refine (awake09 _ (hT.up (by (repeat (first | with_reducible exact Up.refl _ | with_reducible refine Up.alloc ?_ _ | with_reducible refine Up.drew ?_ | with_reducible refine Up.drewN ?_ _ | with_reducible refine Up.setCell ?_ (by (try simp) <;> omega) _ | with_reducible assumption | with_reducible refine Up.trans ?_ (by assumption)))))).mono ?_
      rintro e w1 ⟨rfl, hb_w1⟩
      have hu_w1 : Up w w1 := by (repeat (first | with_reducible exact Up.refl _ | with_reducible refine Up.alloc ?_ _ | with_reducible refine Up.drew ?_ | with_reducible refine Up.drewN ?_ _ | with_reducible refine Up.setCell ?_ (by (try simp) <;> omega) _ | with_reducible assumption | with_reducible refine Up.trans ?_ (by assumption)))
      have hz_w1 := Up.size hb_w1
      try simp at hz_w1
      obtain ⟨bd_w1_0, be_w1_0⟩ := hb_w1.at_ (w.heap.size) (by (try simp) <;> omega)
      have zb_w1_0 : w.heap.size < w1.heap.size := by omega
      go_wp2_with fail
      refine (hanswer_neg _ _ _ _ _ _ s0 s1 t2 t6 hr he').mono ?_
      rintro x w2 ⟨A2, c2, rfl, hm2, u2⟩
      have hz2 := u2.size
      obtain ⟨bc2, bf2⟩ := u2.at_ w.heap.size (by omega)
      go_wp2_with fail
      refine (ref_answer_neg _ _ _ _ _ _ s0 s1 t2 t6 hr he').mono ?_
      rintro x w3 ⟨A3, c3, rfl, hm3, u3⟩
      have hz3 := u3.size
      obtain ⟨bc3, bf3⟩ := u3.at_ w.heap.size (by omega)
      have hwf := resp_wf 1 s (codeOf e) (by omega) ⟨s0, s1⟩ (by omega)
      have hr2 : Reads w2 w2.heap.size 1 A2 6 (bs (resp 1 s (codeOf e))) := hm2.reads
      have hr3 : Reads w3 w3.heap.size 1 A3 6 (bs (resp 1 s (codeOf e))) := hm3.reads
      have hle2 : 6 ≤ c2 := hm2.2.1
      go_wp2_with fail
      refine (same_any _ _ _ _ _ _ _ _ _ _ _ (hr2.up u3) hr3 hwf hwf).mono ?_
      rintro x w' ⟨rfl, rfl⟩
      rw [same_res]
      go_wp2_with fail
      refine (code_any _ _).mono ?_
      rintro x w' ⟨rfl, rfl⟩
      go_wp2_with fail
      refine (ref_code_any _ _).mono ?_
      rintro x w' ⟨rfl, rfl⟩
      go_wp2_with fail
      refine (hparse_good _ _ _ _ _ _ _ _ [codeOf e] _ (hr2.up u3) hwf (by omega) hle2 hm2.2.2 rfl).mono ?_
      rintro x w4 ⟨A4, c4, rfl, ho4, hle4, hmx4, u4⟩
      rw [hs]
      obtain ⟨bc4, bf4⟩ := u4.at_ w.heap.size (by omega)
      have hz4 := u4.size
      have zb : w.heap.size < w4.heap.size := by omega
      go_wp2
      go_ret
      exact ⟨rfl, by (repeat (first | with_reducible exact Up.refl _ | with_reducible refine Up.alloc ?_ _ | with_reducible refine Up.drew ?_ | with_reducible refine Up.drewN ?_ _ | with_reducible refine Up.setCell ?_ (by (try simp) <;> omega) _ | with_reducible assumption | with_reducible refine Up.trans ?_ (by assumption)))⟩
end Go.Proofs.YtockighgdkebaaaDoor
