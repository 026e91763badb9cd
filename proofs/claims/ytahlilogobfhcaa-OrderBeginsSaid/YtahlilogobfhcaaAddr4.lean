/-
  What addr's and the reference's Model, Encode, Decode compute. No condition.
-/
import Derived.Test.YtahlilogobfhcaaAddr3
namespace Go.Proofs.Ytahlilogobfhcaa
open Go.RowKit
set_option linter.unusedVariables false
set_option linter.unusedSimpArgs false

def modelR (n : Int) : Int := if n = 2 then 24 else if n = 3 then 32 else if n = 4 then 43 else if n = 5 then 27 else 0
def modelC (n : Int) : Int := if n = 2 then 80 else if n = 3 then 80 else if n = 4 then 80 else if n = 5 then 132 else 0

def bitsB (b : Int) : Prop := b = 12 ∨ b = 14 ∨ b = 16
def mostOf (b : Int) : Int := if b = 12 then 4095 else if b = 14 then 16383 else 65535
def encL (b n : Int) : List Int := if b = 12 then [sixOf (n / 64), sixOf n] else [n / 256, n % 256]
theorem encL_len (b n : Int) : (encL b n).length = 2 := by unfold encL; split <;> rfl

theorem wraps_62 (n : Int) (h0 : 0 ≤ n) (h1 : n < 2 ^ 62) : IntKind.i64.wrap n = n := by
  have h2 : (2 : Int) ^ 62 = 4611686018427387904 := by decide
  rw [h2] at h1
  exact IntWalk.i64_in n ⟨by omega, by omega⟩
theorem or64a (a b : Int) (h0 : 0 ≤ a) (h1 : a ≤ 255) (h2 : 0 ≤ b) (h3 : b ≤ 255) : bits .or .i64 (a * 256) b = 256 * a + b := by
  rw [bits_join .i64 62 (by decide) wraps_62 8 (a * 256) b (by omega) (by omega) (by omega) h2 (by omega) (by omega)]
  omega
theorem or64b (a b : Int) (h0 : 0 ≤ a) (h1 : a ≤ 63) (h2 : 0 ≤ b) (h3 : b ≤ 63) : bits .or .i64 (a * 64) b = 64 * a + b := by
  rw [bits_join .i64 62 (by decide) wraps_62 6 (a * 64) b (by omega) (by omega) (by omega) h2 (by omega) (by omega)]
  omega

def decN (b a0 a1 : Int) : Int := if b = 16 ∨ a0 < 64 then 256 * a0 + a1 else if 128 ≤ a0 ∧ a0 < 192 then 0 else 64 * unsixOf a0 + unsixOf a1
def decE (b a0 : Int) : Int := if b = 16 ∨ a0 < 64 then 0 else if 128 ≤ a0 ∧ a0 < 192 then 9 else 0
set_option maxHeartbeats 800000 in
theorem decode_arg (b : Int) (A : Option Addr) (n c : Nat) (w : World) (h : ¬ bitsB b) :
    Calls Try.prog 25 #[.int .i64 b, .slice A n c] w fun e w' => e = .returned (.tuple #[.int .i64 0, .int .i64 1]) ∧ w = w' := by
  unfold bitsB at h
  have h2 : (b == 12) = false := by simp; omega
  have h3 : (b == 14) = false := by simp; omega
  have h4 : (b == 16) = false := by simp; omega
  have h2n : (b != 12) = true := by simp; omega
  have h3n : (b != 14) = true := by simp; omega
  have h4n : (b != 16) = true := by simp; omega
  go_enter Try.func25, Try.ntmps25
  go_wp2
  go_ret2
  exact ⟨rfl, rfl⟩
set_option maxHeartbeats 800000 in
theorem decode_short (b : Int) (A : Option Addr) (n c : Nat) (w : World) (h : bitsB b) (hn : n < 2) :
    Calls Try.prog 25 #[.int .i64 b, .slice A n c] w fun e w' => e = .returned (.tuple #[.int .i64 0, .int .i64 2]) ∧ w = w' := by
  rcases h with rfl | rfl | rfl
  all_goals
    go_enter Try.func25, Try.ntmps25
    go_wp2
    go_ret2
    exact ⟨rfl, rfl⟩
set_option maxHeartbeats 3200000 in
theorem decode_ok (b : Int) (A : Option Addr) (n c : Nat) (a0 a1 : Int) (l : List Int) (w : World) (h : bitsB b) (hr : Reads w w.heap.size 1 A n (bs (a0 :: a1 :: l))) (hw : ∀ x ∈ a0 :: a1 :: l, 0 ≤ x ∧ x ≤ 255) (hn : n ≤ 65536) :
    Calls Try.prog 25 #[.int .i64 b, .slice A n c] w fun e w' => e = .returned (.tuple #[.int .i64 (decN b a0 a1), .int .i64 (decE b a0)]) ∧ Up w w' := by
  have hlen : l.length + 2 = n := by have := hr.1; simp [bs] at this; omega
  obtain ⟨b0, off, rfl, _⟩ := hr.form (by omega)
  obtain ⟨hb, k0, k1⟩ := two hr
  have x0 := hw a0 (by simp)
  have x1 := hw a1 (by simp)
  have ho1 := or64a a0 a1 x0.1 x0.2 x1.1 x1.2
  have hu0 := unsix_bd a0
  have hu1 := unsix_bd a1
  have ho2 := or64b (unsixOf a0) (unsixOf a1) hu0.1 hu0.2 hu1.1 hu1.2
  have q0 : (0 : Int) < (n : Int) := by omega
  have q1 : (1 : Int) < (n : Int) := by omega
  have q2 : (2 : Int) ≤ (n : Int) := by omega
  clear hlen hw hr
  by_cases h16 : b = 16
  · subst h16
    simp only [decN, decE, true_or, if_true]
    go_enter Try.func25, Try.ntmps25
    go_wp2_with fail
    refine wp_region_up_lit (by kernel_rfl) (by kernel_rfl) ?_
    repeat (go_big_quiet_step (fail))
    refine wpQuiet_nil ?_
    rintro w1 ⟨W_w1, hw_w1⟩
    have hb_w1 : Up _ w1 := hw_w1 ▸ up_upOf _ _
    clear hw_w1 W_w1
    have hu_w1 : Up w w1 := by (repeat (first | with_reducible exact Up.refl _ | with_reducible refine Up.alloc ?_ _ | with_reducible refine Up.drew ?_ | with_reducible refine Up.drewN ?_ _ | with_reducible refine Up.setCell ?_ (by (try simp) <;> omega) _ | with_reducible assumption | with_reducible refine Up.trans ?_ (by assumption)))
    have hz_w1 := Up.size hb_w1
    try simp at hz_w1
    obtain ⟨bd_w1_0, be_w1_0⟩ := hb_w1.at_ (b0) (by (try simp) <;> omega)
    have zb_w1_0 : b0 < w1.heap.size := by omega
    go_wp2_with fail
    go_wp2
    go_ret2
    exact ⟨rfl, by (repeat (first | with_reducible exact Up.refl _ | with_reducible refine Up.alloc ?_ _ | with_reducible refine Up.drew ?_ | with_reducible refine Up.drewN ?_ _ | with_reducible refine Up.setCell ?_ (by (try simp) <;> omega) _ | with_reducible assumption | with_reducible refine Up.trans ?_ (by assumption)))⟩
  have hs : b = 12 ∨ b = 14 := by unfold bitsB at h; omega
  by_cases hp : a0 < 64
  · simp only [decN, decE, hp, or_true, if_true]
    have z : a0 / 64 = 0 := by omega
    rcases hs with rfl | rfl
    all_goals
      go_enter Try.func25, Try.ntmps25
      go_wp2_with fail
      refine wp_region_up_lit (by kernel_rfl) (by kernel_rfl) ?_
      repeat (go_big_quiet_step (fail))
      refine wpQuiet_nil ?_
      rintro w1 ⟨W_w1, hw_w1⟩
      have hb_w1 : Up _ w1 := hw_w1 ▸ up_upOf _ _
      clear hw_w1 W_w1
      have hu_w1 : Up w w1 := by (repeat (first | with_reducible exact Up.refl _ | with_reducible refine Up.alloc ?_ _ | with_reducible refine Up.drew ?_ | with_reducible refine Up.drewN ?_ _ | with_reducible refine Up.setCell ?_ (by (try simp) <;> omega) _ | with_reducible assumption | with_reducible refine Up.trans ?_ (by assumption)))
      have hz_w1 := Up.size hb_w1
      try simp at hz_w1
      obtain ⟨bd_w1_0, be_w1_0⟩ := hb_w1.at_ (b0) (by (try simp) <;> omega)
      have zb_w1_0 : b0 < w1.heap.size := by omega
      go_wp2_with fail
      go_wp2
      go_ret2
      exact ⟨rfl, by (repeat (first | with_reducible exact Up.refl _ | with_reducible refine Up.alloc ?_ _ | with_reducible refine Up.drew ?_ | with_reducible refine Up.drewN ?_ _ | with_reducible refine Up.setCell ?_ (by (try simp) <;> omega) _ | with_reducible assumption | with_reducible refine Up.trans ?_ (by assumption)))⟩
  by_cases hm : 128 ≤ a0 ∧ a0 < 192
  · simp only [decN, decE, hp, h16, hm, or_self, if_true, if_false, and_self]
    have z : a0 / 64 = 2 := by omega
    obtain ⟨m0, m1⟩ := hm
    rcases hs with rfl | rfl
    all_goals
      go_enter Try.func25, Try.ntmps25
      go_wp2_with fail
      refine wp_region_up_lit (by kernel_rfl) (by kernel_rfl) ?_
      repeat (go_big_quiet_step (fail))
      refine wpQuiet_nil ?_
      rintro w1 ⟨W_w1, hw_w1⟩
      have hb_w1 : Up _ w1 := hw_w1 ▸ up_upOf _ _
      clear hw_w1 W_w1
      have hu_w1 : Up w w1 := by (repeat (first | with_reducible exact Up.refl _ | with_reducible refine Up.alloc ?_ _ | with_reducible refine Up.drew ?_ | with_reducible refine Up.drewN ?_ _ | with_reducible refine Up.setCell ?_ (by (try simp) <;> omega) _ | with_reducible assumption | with_reducible refine Up.trans ?_ (by assumption)))
      have hz_w1 := Up.size hb_w1
      try simp at hz_w1
      obtain ⟨bd_w1_0, be_w1_0⟩ := hb_w1.at_ (b0) (by (try simp) <;> omega)
      have zb_w1_0 : b0 < w1.heap.size := by omega
      go_wp2_with fail
      go_wp2
      go_ret2
      exact ⟨rfl, by (repeat (first | with_reducible exact Up.refl _ | with_reducible refine Up.alloc ?_ _ | with_reducible refine Up.drew ?_ | with_reducible refine Up.drewN ?_ _ | with_reducible refine Up.setCell ?_ (by (try simp) <;> omega) _ | with_reducible assumption | with_reducible refine Up.trans ?_ (by assumption)))⟩
  · simp only [decN, decE, hp, h16, hm, or_self, if_true, if_false]
    have hd : (64 ≤ a0 ∧ a0 < 128) ∨ 192 ≤ a0 := by omega
    have z : a0 / 64 = 1 ∨ a0 / 64 = 3 := by omega
    rcases hs with rfl | rfl
    all_goals
      rcases hd with ⟨d0, d1⟩ | d0
      all_goals
        go_enter Try.func25, Try.ntmps25
        go_wp2_with fail
        refine wp_region_up_lit (by kernel_rfl) (by kernel_rfl) ?_
        repeat (go_big_quiet_step (fail))
        refine wpQuiet_nil ?_
        rintro w1 ⟨W_w1, hw_w1⟩
        have hb_w1 : Up _ w1 := hw_w1 ▸ up_upOf _ _
        clear hw_w1 W_w1
        have hu_w1 : Up w w1 := by (repeat (first | with_reducible exact Up.refl _ | with_reducible refine Up.alloc ?_ _ | with_reducible refine Up.drew ?_ | with_reducible refine Up.drewN ?_ _ | with_reducible refine Up.setCell ?_ (by (try simp) <;> omega) _ | with_reducible assumption | with_reducible refine Up.trans ?_ (by assumption)))
        have hz_w1 := Up.size hb_w1
        try simp at hz_w1
        obtain ⟨bd_w1_0, be_w1_0⟩ := hb_w1.at_ (b0) (by (try simp) <;> omega)
        have zb_w1_0 : b0 < w1.heap.size := by omega
        go_wp2_with fail
        refine wp_region_up_lit (by kernel_rfl) (by kernel_rfl) ?_
        repeat (go_big_quiet_step ((go_at_call 28; exact up_same (unsix_any _ _ (by omega) (by omega)))))
        refine wpQuiet_nil ?_
        rintro w2 ⟨W_w2, hw_w2⟩
        have hb_w2 : Up _ w2 := hw_w2 ▸ up_upOf _ _
        clear hw_w2 W_w2
        have hu_w2 : Up w1 w2 := by (repeat (first | with_reducible exact Up.refl _ | with_reducible refine Up.alloc ?_ _ | with_reducible refine Up.drew ?_ | with_reducible refine Up.drewN ?_ _ | with_reducible refine Up.setCell ?_ (by (try simp) <;> omega) _ | with_reducible assumption | with_reducible refine Up.trans ?_ (by assumption)))
        have hz_w2 := Up.size hb_w2
        try simp at hz_w2
        obtain ⟨bc_w2_0, bf_w2_0⟩ := hu_w2.at_ (b0) (by omega)
        have zb_w2_0 : b0 < w2.heap.size := by omega
        go_wp2_with fail
        go_wp2
        go_ret2
        exact ⟨rfl, by (repeat (first | with_reducible exact Up.refl _ | with_reducible refine Up.alloc ?_ _ | with_reducible refine Up.drew ?_ | with_reducible refine Up.drewN ?_ _ | with_reducible refine Up.setCell ?_ (by (try simp) <;> omega) _ | with_reducible assumption | with_reducible refine Up.trans ?_ (by assumption)))⟩

end Go.Proofs.Ytahlilogobfhcaa
