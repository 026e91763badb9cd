/-
  What the reference's Num computes: digits to the base 16, of texts of at most 4 signs.
-/
import Derived.Test.YtfknakcjhlonoaaBytes
namespace Go.Proofs.Ytfknakcjhlonoaa
open Go.RowKit
set_option linter.unusedVariables false
set_option linter.unusedSimpArgs false

def digOf (c : UInt8) : Int := if 97 ≤ (c.toNat : Int) then ((c.toNat : Int) - 97) % 256 + 10 else ((c.toNat : Int) - 48) % 256
def numOf (l : List UInt8) : Int := l.foldl (fun n c => 16 * n + digOf c) 0
theorem digOf_bd (c : UInt8) : 0 ≤ digOf c ∧ digOf c ≤ 255 := by
  have hc : c.toNat < 256 := c.toNat_lt
  unfold digOf
  split <;> omega
theorem numOf_snoc (l : List UInt8) (c : UInt8) : numOf (l ++ [c]) = 16 * numOf l + digOf c := by simp [numOf, List.foldl_append]
theorem numOf_bd (l : List UInt8) (h : l.length ≤ 4) : 0 ≤ numOf l ∧ numOf l ≤ 1114112 := by
  have key : ∀ l : List UInt8, 0 ≤ numOf l ∧ numOf l ≤ 17 * (16 : Int) ^ l.length - 17 := by
    intro l
    obtain ⟨r, rfl⟩ : ∃ r : List UInt8, l = r.reverse := ⟨l.reverse, by simp⟩
    induction r with
    | nil => simp [numOf]
    | cons c r ih =>
      have := digOf_bd c
      rw [List.reverse_cons, numOf_snoc, List.length_append, List.length_singleton, Int.pow_succ]
      omega
  have hp : (16 : Int) ^ l.length ≤ 16 ^ 4 := by
    match l.length, h with
    | 0, _ => decide
    | 1, _ => decide
    | 2, _ => decide
    | 3, _ => decide
    | 4, _ => decide
  have := key l
  omega

set_option maxHeartbeats 400000 in
theorem num_any (s : ByteArray) (w : World) (hs : s.size ≤ 4) :
    Calls Try.prog 34 #[.string s] w fun e w' => e = .returned (.int .i64 (numOf s.data.toList)) ∧ w = w' := by
  go_enter Try.func34, Try.ntmps34
  go_wp2
  go_loop [3, 4] (fun n i => ∃ k : Nat, k ≤ s.size ∧ i = .int .i64 k ∧ n = .int .i64 (numOf (s.data.toList.take k))) (fun _ i => s.size - (intOf i).toNat)
  case atStart => exact ⟨0, Nat.zero_le _, rfl, rfl⟩
  case round =>
    obtain ⟨k, hk, rfl, rfl⟩ := hrel
    have hd := numOf_bd (s.data.toList.take k) (by simp; omega)
    by_cases hlt : k < s.size
    · have hts : s.data.toList.take (k + 1) = s.data.toList.take k ++ [s[k]] := by
        rw [List.take_succ_eq_append_getElem (by simpa using hlt)]; rfl
      have HS : Hid (numOf (s.data.toList.take (k + 1)) = 16 * numOf (s.data.toList.take k) + digOf s[k]) := by rw [hts]; exact numOf_snoc _ _
      clear hts
      go_wp2
      · go_round
        case rel => exact ⟨k + 1, by omega, by go_num, congrArg _ (by rw [HS.out]; unfold digOf; rw [if_pos (by assumption)])⟩
        case measure => simp [intOf]; omega
      · go_round
        case rel => exact ⟨k + 1, by omega, by go_num, congrArg _ (by rw [HS.out]; unfold digOf; rw [if_neg (by omega)])⟩
        case measure => simp [intOf]; omega
    · go_wp2
      go_ret
      exact ⟨ret_int (by rw [List.take_of_length_le (by simp; omega)]), rfl⟩

end Go.Proofs.Ytfknakcjhlonoaa
