/-
  The walk of law 04's AddrCodes. No condition.
-/
import Derived.Test.YtejnblncnpfkaaaLaw04a
namespace Go.Proofs.Ytejnblncnpfkaaa
open Go.RowKit
set_option linter.unusedVariables false
set_option linter.unusedSimpArgs false

def encE (b n : Int) : Int := if b = 12 ∨ b = 14 ∨ b = 16 then (if n < 0 ∨ mostOf b < n then 9 else 0) else 1
def encS (b n : Int) : List Int := if encE b n = 0 then encL b n else []
def decX (b : Int) (l : List Int) : Int := if b = 12 ∨ b = 14 ∨ b = 16 then (match l with | a0 :: a1 :: _ => decN b a0 a1 | _ => 0) else 0
def decY (b : Int) (l : List Int) : Int := if b = 12 ∨ b = 14 ∨ b = 16 then (match l with | a0 :: _ :: _ => decE b a0 | _ => 2) else 1
theorem reads_none (w : World) (B : Nat) : Reads w B 1 none 0 (bs []) := ⟨by simp [bs], fun h => absurd h (by omega)⟩

def EncPost (w w' : World) (x : Ending) (e : Int) (s : List Int) : Prop := ∃ A m c, x = .returned (.tuple #[.slice A m c, .int .i64 e]) ∧ m = s.length ∧ Reads w' w'.heap.size 1 A m (bs s) ∧ Up w w'
theorem encode_all {b n e : Int} {s : List Int} (he : encE b n = e) (hs : encS b n = s) (w : World) : Calls Try.prog 18 #[.int .i64 b, .int .i64 n] w fun x w' => EncPost w w' x e s := by
  subst he hs
  by_cases hb : b = 12 ∨ b = 14 ∨ b = 16
  · by_cases hn : n < 0 ∨ mostOf b < n
    · have h1 : encE b n = 9 := by simp [encE, hb, hn]
      have h2 : encS b n = [] := by simp [encS, h1]
      rw [h1, h2]
      refine (encode_addr b n w hb hn).mono ?_
      rintro x w' ⟨rfl, rfl⟩
      exact ⟨none, 0, 0, rfl, rfl, reads_none _ _, Up.refl _⟩
    · have h1 : encE b n = 0 := by simp only [encE, hb, hn, if_true, if_false]
      have h2 : encS b n = encL b n := by simp only [encS, h1, if_true]
      rw [h1, h2]
      refine (encode_ok b n w hb (by omega) (by omega)).mono ?_
      rintro x w' ⟨A, c, rfl, hm, hu⟩
      exact ⟨A, 2, c, rfl, (encL_len b n).symm, (encL_len b n) ▸ hm.reads, hu⟩
  · have h1 : encE b n = 1 := by simp only [encE, hb, if_false]
    have h2 : encS b n = [] := by simp [encS, h1]
    rw [h1, h2]
    refine (encode_arg b n w hb).mono ?_
    rintro x w' ⟨rfl, rfl⟩
    exact ⟨none, 0, 0, rfl, rfl, reads_none _ _, Up.refl _⟩
theorem ref_encode_all {b n e : Int} {s : List Int} (he : encE b n = e) (hs : encS b n = s) (w : World) : Calls Try.prog 19 #[.int .i64 b, .int .i64 n] w fun x w' => EncPost w w' x e s := by
  subst he hs
  by_cases hb : b = 12 ∨ b = 14 ∨ b = 16
  · by_cases hn : n < 0 ∨ mostOf b < n
    · have h1 : encE b n = 9 := by simp [encE, hb, hn]
      have h2 : encS b n = [] := by simp [encS, h1]
      rw [h1, h2]
      refine (ref_encode_addr b n w hb hn).mono ?_
      rintro x w' ⟨rfl, rfl⟩
      exact ⟨none, 0, 0, rfl, rfl, reads_none _ _, Up.refl _⟩
    · have h1 : encE b n = 0 := by simp only [encE, hb, hn, if_true, if_false]
      have h2 : encS b n = encL b n := by simp only [encS, h1, if_true]
      rw [h1, h2]
      refine (ref_encode_ok b n w hb (by omega) (by omega)).mono ?_
      rintro x w' ⟨A, c, rfl, hm, hu⟩
      exact ⟨A, 2, c, rfl, (encL_len b n).symm, (encL_len b n) ▸ hm.reads, hu⟩
  · have h1 : encE b n = 1 := by simp only [encE, hb, if_false]
    have h2 : encS b n = [] := by simp [encS, h1]
    rw [h1, h2]
    refine (ref_encode_arg b n w hb).mono ?_
    rintro x w' ⟨rfl, rfl⟩
    exact ⟨none, 0, 0, rfl, rfl, reads_none _ _, Up.refl _⟩

theorem reads_len {w : World} {B n : Nat} {A : Option Addr} {l : List Int} (hr : Reads w B 1 A n (bs l)) : l.length = n := by have := hr.1; simpa [bs] using this
theorem decode_all {b x y : Int} {l : List Int} (hx : decX b l = x) (hy : decY b l = y) (A : Option Addr) (n c : Nat) (w : World) (hr : Reads w w.heap.size 1 A n (bs l)) (hw : ∀ x ∈ l, 0 ≤ x ∧ x ≤ 255) (hn : n ≤ 65536) :
    Calls Try.prog 21 #[.int .i64 b, .slice A n c] w fun e w' => e = .returned (.tuple #[.int .i64 x, .int .i64 y]) ∧ Up w w' := by
  subst hx hy
  have hlen := reads_len hr
  by_cases hb : b = 12 ∨ b = 14 ∨ b = 16
  · match l, hr, hw, hlen with
    | [], hr, hw, hlen =>
      simp only [decX, decY, hb, if_true]
      refine (decode_short b A n c w hb (by simp at hlen; omega)).mono ?_
      rintro e w' ⟨rfl, rfl⟩; exact ⟨rfl, Up.refl _⟩
    | [a], hr, hw, hlen =>
      simp only [decX, decY, hb, if_true]
      refine (decode_short b A n c w hb (by simp at hlen; omega)).mono ?_
      rintro e w' ⟨rfl, rfl⟩; exact ⟨rfl, Up.refl _⟩
    | a0 :: a1 :: l, hr, hw, hlen =>
      simp only [decX, decY, hb, if_true]
      exact decode_ok b A n c a0 a1 l w hb hr hw hn
  · simp only [decX, decY, hb, if_false]
    refine (decode_arg b A n c w hb).mono ?_
    rintro e w' ⟨rfl, rfl⟩; exact ⟨rfl, Up.refl _⟩
theorem ref_decode_all {b x y : Int} {l : List Int} (hx : decX b l = x) (hy : decY b l = y) (A : Option Addr) (n c : Nat) (w : World) (hr : Reads w w.heap.size 1 A n (bs l)) (hw : ∀ x ∈ l, 0 ≤ x ∧ x ≤ 255) (hn : n ≤ 65536) :
    Calls Try.prog 23 #[.int .i64 b, .slice A n c] w fun e w' => e = .returned (.tuple #[.int .i64 x, .int .i64 y]) ∧ Up w w' := by
  subst hx hy
  have hlen := reads_len hr
  by_cases hb : b = 12 ∨ b = 14 ∨ b = 16
  · match l, hr, hw, hlen with
    | [], hr, hw, hlen =>
      simp only [decX, decY, hb, if_true]
      refine (ref_decode_short b A n c w hb (by simp at hlen; omega)).mono ?_
      rintro e w' ⟨rfl, rfl⟩; exact ⟨rfl, Up.refl _⟩
    | [a], hr, hw, hlen =>
      simp only [decX, decY, hb, if_true]
      refine (ref_decode_short b A n c w hb (by simp at hlen; omega)).mono ?_
      rintro e w' ⟨rfl, rfl⟩; exact ⟨rfl, Up.refl _⟩
    | a0 :: a1 :: l, hr, hw, hlen =>
      simp only [decX, decY, hb, if_true]
      exact ref_decode_ok b A n c a0 a1 l w hb hr hw hn
  · simp only [decX, decY, hb, if_false]
    refine (ref_decode_arg b A n c w hb).mono ?_
    rintro e w' ⟨rfl, rfl⟩; exact ⟨rfl, Up.refl _⟩

theorem six_apart : ∀ k : Fin 64, ¬ sixOf (k.val : Int) < 64 ∧ ¬ (128 ≤ sixOf (k.val : Int) ∧ sixOf (k.val : Int) < 192) := by decide +kernel
theorem six_far (n : Int) : ¬ sixOf n < 64 ∧ ¬ (128 ≤ sixOf n ∧ sixOf n < 192) := by
  have := six_apart ⟨(n % 64).toNat, by omega⟩
  have h : (((n % 64).toNat : Nat) : Int) = n % 64 := by omega
  simp only [h, sixOf_mod] at this
  exact this
theorem unsix_of (n : Int) : unsixOf (sixOf n) = n % 64 := by
  have := unsix_six (n % 64).toNat (by omega)
  have h : (((n % 64).toNat : Nat) : Int) = n % 64 := by omega
  rwa [h, sixOf_mod] at this
theorem enc_dec {b n : Int} (h : encE b n = 0) : decX b (encS b n) = n ∧ decY b (encS b n) = 0 ∧ ∀ x ∈ encS b n, 0 ≤ x ∧ x ≤ 255 := by
  have hb : b = 12 ∨ b = 14 ∨ b = 16 := by
    by_cases hb : b = 12 ∨ b = 14 ∨ b = 16
    · exact hb
    · simp only [encE, hb, if_false] at h; omega
  have hn : ¬ (n < 0 ∨ mostOf b < n) := by
    intro hn
    simp only [encE, hb, hn, if_true] at h; omega
  have h2 : encS b n = encL b n := by simp only [encS, h, if_true]
  rw [h2]
  rcases hb with rfl | rfl | rfl
  · simp [mostOf] at hn
    obtain ⟨f1, f2⟩ := six_far (n / 64)
    have q1 := unsix_of (n / 64)
    have q2 := unsix_of n
    have b1 := sixOf_bd (n / 64)
    have b2 := sixOf_bd n
    have e : encL 12 n = [sixOf (n / 64), sixOf n] := rfl
    rw [e]
    refine ⟨?_, ?_, ?_⟩
    · show decN 12 _ _ = n
      simp only [decN, f1, f2, if_false, q1, q2, or_false, show ¬ ((12 : Int) = 16) by decide]
      omega
    · show decE 12 _ = 0
      simp only [decE, f1, f2, if_false, or_false, show ¬ ((12 : Int) = 16) by decide]
    · intro x hx
      simp at hx
      rcases hx with rfl | rfl
      · exact b1
      · exact b2
  · simp [mostOf] at hn
    have e : encL 14 n = [n / 256, n % 256] := rfl
    rw [e]
    have hlt : n / 256 < 64 := by omega
    refine ⟨?_, ?_, ?_⟩
    · show decN 14 _ _ = n
      simp only [decN, hlt, or_true, if_true]
      omega
    · show decE 14 _ = 0
      simp only [decE, hlt, or_true, if_true]
    · intro x hx
      simp at hx
      omega
  · simp [mostOf] at hn
    have e : encL 16 n = [n / 256, n % 256] := rfl
    rw [e]
    refine ⟨?_, ?_, ?_⟩
    · show decN 16 (n / 256) (n % 256) = n
      simp only [decN, true_or, if_true]
      omega
    · show decE 16 (n / 256) = 0
      simp only [decE, true_or, if_true]
    · intro x hx
      simp at hx
      omega
theorem encS_bd (b n : Int) : ∀ x ∈ encS b n, 0 ≤ x ∧ x ≤ 255 := by
  by_cases h : encE b n = 0
  · exact (enc_dec h).2.2
  · simp [encS, h]
theorem encS_len (b n : Int) : (encS b n).length ≤ 2 := by
  unfold encS; split
  · rw [encL_len]; omega
  · simp

theorem cut_five (A : Option Addr) (n c : Nat) (l : List Int) (w : World) (hr : Reads w w.heap.size 1 A n (bs l)) (hn : n ≤ c) (hc : c ≤ maxLen) :
    Calls Try.prog 22 #[.slice A n c, .int .i64 5] w fun e w' => ∃ A' n' c', e = .returned (.slice A' n' c') ∧ n' ≤ 5 ∧ Reads w' w'.heap.size 1 A' n' (bs (l.take 5)) ∧ Up w w' := by
  refine (cut_any A n c l 5 w hr hn hc (by omega) (by omega)).mono ?_
  rintro e w' ⟨A', n', c', rfl, h1, h2, h3, h4, h5⟩
  exact ⟨A', n', c', rfl, by rw [h1]; exact Nat.min_le_right _ _, Reads.of_own h2, h5⟩
set_option maxRecDepth 100000 in
set_option maxHeartbeats 800000 in
theorem law_codes (b n : Int) (Ab : Option Addr) (nb cb : Nat) (lb : List Int) (w : World) (_ : -9223372036854775808 ≤ b) (_ : b ≤ 9223372036854775807) (_ : -9223372036854775808 ≤ n) (_ : n ≤ 9223372036854775807)
    (hlb : lb.length = nb) (hnb : nb ≤ cb) (hcb : cb ≤ maxLen) (hwb : ∀ x ∈ lb, 0 ≤ x ∧ x ≤ 255) (hrb : Reads w w.heap.size 1 Ab nb (lb.map (Value.int .u8))) :
    Calls Try.prog 5 #[.int .i64 b, .int .i64 n, .slice Ab nb cb] w fun e w' => e = .returned (.bool true) ∧ Up w w' := by
  obtain ⟨s, hs⟩ : ∃ s, encS b n = s := ⟨_, rfl⟩
  obtain ⟨e, he⟩ : ∃ e, encE b n = e := ⟨_, rfl⟩
  have hsb := encS_bd b n
  have hsl := encS_len b n
  have hed : encE b n = 0 → _ := enc_dec
  obtain ⟨x, hx⟩ : ∃ x, decX b (lb.take 5) = x := ⟨_, rfl⟩
  obtain ⟨y, hy⟩ : ∃ y, decY b (lb.take 5) = y := ⟨_, rfl⟩
  have hwt : ∀ x ∈ lb.take 5, 0 ≤ x ∧ x ≤ 255 := fun x hx => hwb x (List.mem_of_mem_take hx)
  have hrb' : Reads w w.heap.size 1 Ab nb (bs lb) := hrb
  rw [hs] at hsb hsl hed
  rw [he] at hed
  have HS := Lib.hid (p := _) hsb
  clear hsb hrb hwb
  by_cases h0 : e = 0
  · subst h0
    obtain ⟨g1, g2, -⟩ := hed rfl
    clear hed
    go_enter Try.func5, Try.ntmps5
    go_wp2_with fail
    refine (awake04 _).mono ?_
    rintro e w1 ⟨rfl, hb_w1⟩
    have hu_w1 : Up w w1 := by (repeat (first | with_reducible exact Up.refl _ | with_reducible refine Up.alloc ?_ _ | with_reducible refine Up.drew ?_ | with_reducible refine Up.drewN ?_ _ | with_reducible refine Up.setCell ?_ (by (try simp) <;> omega) _ | with_reducible assumption | with_reducible refine Up.trans ?_ (by assumption)))
    have hz_w1 := Up.size hb_w1
    try simp at hz_w1
    go_wp2_with fail
    refine (encode_all he hs _).mono ?_
    rintro e w2 ⟨A2, m2, c2, rfl, rfl, hr2, hb_w2⟩
    have hu_w2 : Up w1 w2 := by (repeat (first | with_reducible exact Up.refl _ | with_reducible refine Up.alloc ?_ _ | with_reducible refine Up.drew ?_ | with_reducible refine Up.drewN ?_ _ | with_reducible refine Up.setCell ?_ (by (try simp) <;> omega) _ | with_reducible assumption | with_reducible refine Up.trans ?_ (by assumption)))
    have hz_w2 := Up.size hb_w2
    try simp at hz_w2
    go_wp2_with fail
    refine (ref_encode_all he hs _).mono ?_
    rintro e w3 ⟨A3, m3, c3, rfl, rfl, hr3, hb_w3⟩
    have hu_w3 : Up w2 w3 := by (repeat (first | with_reducible exact Up.refl _ | with_reducible refine Up.alloc ?_ _ | with_reducible refine Up.drew ?_ | with_reducible refine Up.drewN ?_ _ | with_reducible refine Up.setCell ?_ (by (try simp) <;> omega) _ | with_reducible assumption | with_reducible refine Up.trans ?_ (by assumption)))
    have hz_w3 := Up.size hb_w3
    try simp at hz_w3
    go_wp2_with fail
    refine (same_yes _ _ _ _ _ _ _ _ s s _ rfl (hr2.up hb_w3) hr3 HS.out).mono ?_
    rintro e w' ⟨rfl, rfl⟩
    go_wp2_with fail
    refine (decode_all g1 g2 _ _ _ _ (hr2.up hb_w3) HS.out (by omega)).mono ?_
    rintro e w4 ⟨rfl, hb_w4⟩
    have hu_w4 : Up w3 w4 := by (repeat (first | with_reducible exact Up.refl _ | with_reducible refine Up.alloc ?_ _ | with_reducible refine Up.drew ?_ | with_reducible refine Up.drewN ?_ _ | with_reducible refine Up.setCell ?_ (by (try simp) <;> omega) _ | with_reducible assumption | with_reducible refine Up.trans ?_ (by assumption)))
    have hz_w4 := Up.size hb_w4
    try simp at hz_w4
    go_wp2_with fail
    refine (cut_five _ _ _ lb _ (hrb'.up (by (repeat (first | with_reducible exact Up.refl _ | with_reducible refine Up.alloc ?_ _ | with_reducible refine Up.drew ?_ | with_reducible refine Up.drewN ?_ _ | with_reducible refine Up.setCell ?_ (by (try simp) <;> omega) _ | with_reducible assumption | with_reducible refine Up.trans ?_ (by assumption))))) hnb hcb).mono ?_
    rintro e w5 ⟨A5, m5, c5, rfl, hm5, hr5, hb_w5⟩
    have hu_w5 : Up w4 w5 := by (repeat (first | with_reducible exact Up.refl _ | with_reducible refine Up.alloc ?_ _ | with_reducible refine Up.drew ?_ | with_reducible refine Up.drewN ?_ _ | with_reducible refine Up.setCell ?_ (by (try simp) <;> omega) _ | with_reducible assumption | with_reducible refine Up.trans ?_ (by assumption)))
    have hz_w5 := Up.size hb_w5
    try simp at hz_w5
    go_wp2_with fail
    refine (decode_all hx hy _ _ _ _ hr5 hwt (by omega)).mono ?_
    rintro e w6 ⟨rfl, hb_w6⟩
    have hu_w6 : Up w5 w6 := by (repeat (first | with_reducible exact Up.refl _ | with_reducible refine Up.alloc ?_ _ | with_reducible refine Up.drew ?_ | with_reducible refine Up.drewN ?_ _ | with_reducible refine Up.setCell ?_ (by (try simp) <;> omega) _ | with_reducible assumption | with_reducible refine Up.trans ?_ (by assumption)))
    have hz_w6 := Up.size hb_w6
    try simp at hz_w6
    go_wp2_with fail
    refine (ref_decode_all hx hy _ _ _ _ (hr5.up hb_w6) hwt (by omega)).mono ?_
    rintro e w7 ⟨rfl, hb_w7⟩
    have hu_w7 : Up w6 w7 := by (repeat (first | with_reducible exact Up.refl _ | with_reducible refine Up.alloc ?_ _ | with_reducible refine Up.drew ?_ | with_reducible refine Up.drewN ?_ _ | with_reducible refine Up.setCell ?_ (by (try simp) <;> omega) _ | with_reducible assumption | with_reducible refine Up.trans ?_ (by assumption)))
    have hz_w7 := Up.size hb_w7
    try simp at hz_w7
    go_wp2_with fail
    refine (six_any _ _).mono ?_
    rintro e w' ⟨rfl, rfl⟩
    go_wp2_with fail
    refine (ref_six_any _ _).mono ?_
    rintro e w' ⟨rfl, rfl⟩
    go_wp2_with fail
    go_ret
    exact ⟨rfl, by (repeat (first | with_reducible exact Up.refl _ | with_reducible refine Up.alloc ?_ _ | with_reducible refine Up.drew ?_ | with_reducible refine Up.drewN ?_ _ | with_reducible refine Up.setCell ?_ (by (try simp) <;> omega) _ | with_reducible assumption | with_reducible refine Up.trans ?_ (by assumption)))⟩
  · have h1 : (e == 0) = false := by simpa using h0
    clear hed
    go_enter Try.func5, Try.ntmps5
    go_wp2_with fail
    refine (awake04 _).mono ?_
    rintro e w1 ⟨rfl, hb_w1⟩
    have hu_w1 : Up w w1 := by (repeat (first | with_reducible exact Up.refl _ | with_reducible refine Up.alloc ?_ _ | with_reducible refine Up.drew ?_ | with_reducible refine Up.drewN ?_ _ | with_reducible refine Up.setCell ?_ (by (try simp) <;> omega) _ | with_reducible assumption | with_reducible refine Up.trans ?_ (by assumption)))
    have hz_w1 := Up.size hb_w1
    try simp at hz_w1
    go_wp2_with fail
    refine (encode_all he hs _).mono ?_
    rintro e w2 ⟨A2, m2, c2, rfl, rfl, hr2, hb_w2⟩
    have hu_w2 : Up w1 w2 := by (repeat (first | with_reducible exact Up.refl _ | with_reducible refine Up.alloc ?_ _ | with_reducible refine Up.drew ?_ | with_reducible refine Up.drewN ?_ _ | with_reducible refine Up.setCell ?_ (by (try simp) <;> omega) _ | with_reducible assumption | with_reducible refine Up.trans ?_ (by assumption)))
    have hz_w2 := Up.size hb_w2
    try simp at hz_w2
    go_wp2_with fail
    refine (ref_encode_all he hs _).mono ?_
    rintro e w3 ⟨A3, m3, c3, rfl, rfl, hr3, hb_w3⟩
    have hu_w3 : Up w2 w3 := by (repeat (first | with_reducible exact Up.refl _ | with_reducible refine Up.alloc ?_ _ | with_reducible refine Up.drew ?_ | with_reducible refine Up.drewN ?_ _ | with_reducible refine Up.setCell ?_ (by (try simp) <;> omega) _ | with_reducible assumption | with_reducible refine Up.trans ?_ (by assumption)))
    have hz_w3 := Up.size hb_w3
    try simp at hz_w3
    go_wp2_with fail
    refine (same_yes _ _ _ _ _ _ _ _ s s _ rfl (hr2.up hb_w3) hr3 HS.out).mono ?_
    rintro e w' ⟨rfl, rfl⟩
    go_wp2_with fail
    refine (cut_five _ _ _ lb _ (hrb'.up (by (repeat (first | with_reducible exact Up.refl _ | with_reducible refine Up.alloc ?_ _ | with_reducible refine Up.drew ?_ | with_reducible refine Up.drewN ?_ _ | with_reducible refine Up.setCell ?_ (by (try simp) <;> omega) _ | with_reducible assumption | with_reducible refine Up.trans ?_ (by assumption))))) hnb hcb).mono ?_
    rintro e w5 ⟨A5, m5, c5, rfl, hm5, hr5, hb_w5⟩
    have hu_w5 : Up w3 w5 := by (repeat (first | with_reducible exact Up.refl _ | with_reducible refine Up.alloc ?_ _ | with_reducible refine Up.drew ?_ | with_reducible refine Up.drewN ?_ _ | with_reducible refine Up.setCell ?_ (by (try simp) <;> omega) _ | with_reducible assumption | with_reducible refine Up.trans ?_ (by assumption)))
    have hz_w5 := Up.size hb_w5
    try simp at hz_w5
    go_wp2_with fail
    refine (decode_all hx hy _ _ _ _ hr5 hwt (by omega)).mono ?_
    rintro e w6 ⟨rfl, hb_w6⟩
    have hu_w6 : Up w5 w6 := by (repeat (first | with_reducible exact Up.refl _ | with_reducible refine Up.alloc ?_ _ | with_reducible refine Up.drew ?_ | with_reducible refine Up.drewN ?_ _ | with_reducible refine Up.setCell ?_ (by (try simp) <;> omega) _ | with_reducible assumption | with_reducible refine Up.trans ?_ (by assumption)))
    have hz_w6 := Up.size hb_w6
    try simp at hz_w6
    go_wp2_with fail
    refine (ref_decode_all hx hy _ _ _ _ (hr5.up hb_w6) hwt (by omega)).mono ?_
    rintro e w7 ⟨rfl, hb_w7⟩
    have hu_w7 : Up w6 w7 := by (repeat (first | with_reducible exact Up.refl _ | with_reducible refine Up.alloc ?_ _ | with_reducible refine Up.drew ?_ | with_reducible refine Up.drewN ?_ _ | with_reducible refine Up.setCell ?_ (by (try simp) <;> omega) _ | with_reducible assumption | with_reducible refine Up.trans ?_ (by assumption)))
    have hz_w7 := Up.size hb_w7
    try simp at hz_w7
    go_wp2_with fail
    refine (six_any _ _).mono ?_
    rintro e w' ⟨rfl, rfl⟩
    go_wp2_with fail
    refine (ref_six_any _ _).mono ?_
    rintro e w' ⟨rfl, rfl⟩
    go_wp2_with fail
    go_ret
    exact ⟨rfl, by (repeat (first | with_reducible exact Up.refl _ | with_reducible refine Up.alloc ?_ _ | with_reducible refine Up.drew ?_ | with_reducible refine Up.drewN ?_ _ | with_reducible refine Up.setCell ?_ (by (try simp) <;> omega) _ | with_reducible assumption | with_reducible refine Up.trans ?_ (by assumption)))⟩
end Go.Proofs.Ytejnblncnpfkaaa
