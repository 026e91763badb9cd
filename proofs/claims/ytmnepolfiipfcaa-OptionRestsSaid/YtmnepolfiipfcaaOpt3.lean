/-
  What option's Hear does at other verbs and at a nil machine; askOn, askOff, Ask, State, On. No condition.
-/
import Derived.Test.YtmnepolfiipfcaaOpt2
namespace Go.Proofs.Ytmnepolfiipfcaa
open Go.RowKit
set_option linter.unusedVariables false
set_option linter.unusedSimpArgs false

set_option maxHeartbeats 800000 in
theorem hear_other (A : Option Addr) (v o : Int) (w : World) (hA : A ≠ none) (h1 : v ≠ 251) (h2 : v ≠ 252) (h3 : v ≠ 253) (h4 : v ≠ 254) :
    Calls Try.prog 11 #[.pointer A, .int .u8 v, .int .u8 o] w fun e w' => e = .returned (.tuple #[.slice none 0 0, .int .i64 1]) ∧ w = w' := by
  obtain ⟨a, rfl⟩ := Option.ne_none_iff_exists'.1 hA
  have e1 : (v == 251) = false := by simpa using h1
  have e2 : (v == 252) = false := by simpa using h2
  have e3 : (v == 253) = false := by simpa using h3
  have e4 : (v == 254) = false := by simpa using h4
  go_enter Try.func11, Try.ntmps11
  go_wp2
  go_ret2
  exact ⟨rfl, rfl⟩
set_option maxHeartbeats 800000 in
theorem hear_nil (v o : Int) (w : World) :
    Calls Try.prog 11 #[.pointer none, .int .u8 v, .int .u8 o] w fun e w' => e = .returned (.tuple #[.slice none 0 0, .int .i64 5]) ∧ w = w' := by
  go_enter Try.func11, Try.ntmps11
  go_wp2
  go_ret2
  exact ⟨rfl, rfl⟩
set_option maxHeartbeats 800000 in
theorem ask_nil (i o : Int) (t : Bool) (w : World) :
    Calls Try.prog 14 #[.pointer none, .int .i64 i, .int .u8 o, .bool t] w fun e w' => e = .returned (.tuple #[.slice none 0 0, .int .i64 5]) ∧ w = w' := by
  go_enter Try.func14, Try.ntmps14
  go_wp2
  go_ret2
  exact ⟨rfl, rfl⟩
set_option maxHeartbeats 800000 in
theorem ask_side (A : Option Addr) (i o : Int) (t : Bool) (w : World) (hA : A ≠ none) (h0 : i ≠ 0) (h1 : i ≠ 1) :
    Calls Try.prog 14 #[.pointer A, .int .i64 i, .int .u8 o, .bool t] w fun e w' => e = .returned (.tuple #[.slice none 0 0, .int .i64 1]) ∧ w = w' := by
  obtain ⟨a, rfl⟩ := Option.ne_none_iff_exists'.1 hA
  have e1 : (i != 0) = true := by simpa using h0
  have e2 : (i != 1) = true := by simpa using h1
  go_enter Try.func14, Try.ntmps14
  go_wp2
  go_ret2
  exact ⟨rfl, rfl⟩
set_option maxHeartbeats 800000 in
theorem state_nil (i o : Int) (w : World) :
    Calls Try.prog 19 #[.pointer none, .int .i64 i, .int .u8 o] w fun e w' => e = .returned (.int .i64 0) ∧ w = w' := by
  go_enter Try.func19, Try.ntmps19
  go_wp2
  go_ret
  exact ⟨rfl, rfl⟩
set_option maxHeartbeats 800000 in
theorem state_side (A : Option Addr) (i o : Int) (w : World) (hA : A ≠ none) (h0 : i ≠ 0) (h1 : i ≠ 1) :
    Calls Try.prog 19 #[.pointer A, .int .i64 i, .int .u8 o] w fun e w' => e = .returned (.int .i64 0) ∧ w = w' := by
  obtain ⟨a, rfl⟩ := Option.ne_none_iff_exists'.1 hA
  have e1 : (i != 0) = true := by simpa using h0
  have e2 : (i != 1) = true := by simpa using h1
  go_enter Try.func19, Try.ntmps19
  go_wp2
  go_ret
  exact ⟨rfl, rfl⟩
set_option maxHeartbeats 800000 in
theorem state_is (b k i : Nat) (S : Nat → Nat → Int) (G : Nat → Nat → Bool) (w : World) (hm : MAt w b S G) (hk : k < 256) (hi : i < 2) (hs : 0 ≤ S i k ∧ S i k ≤ 255) :
    Calls Try.prog 19 #[.pointer (some ⟨b, 0, none⟩), .int .i64 (i : Int), .int .u8 (k : Int)] w fun e w' => e = .returned (.int .i64 (S i k)) ∧ w = w' := by
  obtain ⟨⟨q1, q2⟩, q3, q4⟩ := hm i k hi hk
  have hk' : (k : Int) < 256 := by omega
  clear hm
  obtain ⟨hs0, hs1⟩ := hs
  obtain rfl | rfl : i = 0 ∨ i = 1 := by omega
  · simp only [Nat.mul_zero, Nat.zero_add] at q1
    go_enter Try.func19, Try.ntmps19
    go_wp2
    go_ret
    exact ⟨rfl, rfl⟩
  · simp only [Nat.mul_one] at q1
    go_enter Try.func19, Try.ntmps19
    go_wp2
    go_ret
    exact ⟨rfl, rfl⟩
theorem on_of {A : Option Addr} {i o s : Int} {b : Bool} {w : World} (h : Calls Try.prog 19 #[.pointer A, .int .i64 i, .int .u8 o] w fun e w' => e = .returned (.int .i64 s) ∧ w = w') (hb : (s == 1) = b) :
    Calls Try.prog 13 #[.pointer A, .int .i64 i, .int .u8 o] w fun e w' => e = .returned (.bool b) ∧ w = w' := by
  subst hb
  go_enter Try.func13, Try.ntmps13
  go_wp2_with (go_at_call 19; refine h.mono ?_; rintro e w' ⟨rfl, rfl⟩)
  go_ret
  exact ⟨rfl, rfl⟩

def askOnN (s : Int) : Int := if s = 0 then 4 else if s = 2 then 3 else if s = 5 then 4 else s
def askOnW (s : Int) : Int := if s = 0 then 2 else 0
def askOnK (s : Int) : Bool := s == 0 || s == 2 || s == 5
def askOffN (s : Int) : Int := if s = 1 then 2 else if s = 3 then 2 else if s = 4 then 5 else s
def askOffW (s : Int) : Int := if s = 1 then 1 else 0
def askOffK (s : Int) : Bool := s == 1 || s == 3 || s == 4
set_option maxHeartbeats 800000 in
theorem askOn_is (b off k : Nat) (s : Int) (w : World) (hk : k < 256) (h1 : w.cell? ⟨b, off + k, none⟩ = some (.int .u8 s)) :
    Calls Try.prog 33 #[.pointer (some ⟨b, off, none⟩), .int .u8 (k : Int)] w fun e w' => e = .returned (.tuple #[.int .u8 (askOnN s), .int .u8 (askOnW s), .bool (askOnK s)]) ∧ w = w' := by
  have hk' : (k : Int) < 256 := by omega
  by_cases s0 : s = 0
  · subst s0
    go_enter Try.func33, Try.ntmps33
    go_wp2
    go_ret3
    exact ⟨rfl, rfl⟩
  by_cases s2 : s = 2
  · subst s2
    go_enter Try.func33, Try.ntmps33
    go_wp2
    go_ret3
    exact ⟨rfl, rfl⟩
  by_cases s5 : s = 5
  · subst s5
    go_enter Try.func33, Try.ntmps33
    go_wp2
    go_ret3
    exact ⟨rfl, rfl⟩
  have e0 : (s == 0) = false := by simpa using s0
  have e2 : (s == 2) = false := by simpa using s2
  have e5 : (s == 5) = false := by simpa using s5
  simp only [askOnN, askOnW, askOnK, s0, e0, s2, e2, s5, e5, if_false, Bool.or_self]
  go_enter Try.func33, Try.ntmps33
  go_wp2
  go_ret3
  exact ⟨rfl, rfl⟩
set_option maxHeartbeats 800000 in
theorem askOff_is (b off k : Nat) (s : Int) (w : World) (hk : k < 256) (h1 : w.cell? ⟨b, off + k, none⟩ = some (.int .u8 s)) :
    Calls Try.prog 34 #[.pointer (some ⟨b, off, none⟩), .int .u8 (k : Int)] w fun e w' => e = .returned (.tuple #[.int .u8 (askOffN s), .int .u8 (askOffW s), .bool (askOffK s)]) ∧ w = w' := by
  have hk' : (k : Int) < 256 := by omega
  by_cases s1 : s = 1
  · subst s1
    go_enter Try.func34, Try.ntmps34
    go_wp2
    go_ret3
    exact ⟨rfl, rfl⟩
  by_cases s3 : s = 3
  · subst s3
    go_enter Try.func34, Try.ntmps34
    go_wp2
    go_ret3
    exact ⟨rfl, rfl⟩
  by_cases s4 : s = 4
  · subst s4
    go_enter Try.func34, Try.ntmps34
    go_wp2
    go_ret3
    exact ⟨rfl, rfl⟩
  have e1 : (s == 1) = false := by simpa using s1
  have e3 : (s == 3) = false := by simpa using s3
  have e4 : (s == 4) = false := by simpa using s4
  simp only [askOffN, askOffW, askOffK, s1, e1, s3, e3, s4, e4, if_false, Bool.or_self]
  go_enter Try.func34, Try.ntmps34
  go_wp2
  go_ret3
  exact ⟨rfl, rfl⟩
end Go.Proofs.Ytmnepolfiipfcaa
