/-
  What the references' Num (digits to the base 16), Mod and Six compute. Of Num: texts of at most 4 signs. Of Mod: a divisor up to 2^62.
-/
import Derived.Test.YtjokcfenncogkaaSix
namespace Go.Proofs.Ytjokcfenncogkaa
open Go.RowKit
set_option linter.unusedVariables false

/-- the remainder, never below 0; by less than 1: 0 -/
def modOf (n b : Int) : Int := if b < 1 then 0 else n % b

theorem modOf_pos (n b : Int) (h : 1 ≤ b) : modOf n b = n % b := by unfold modOf; rw [if_neg (by omega)]
theorem modOf_bd (n b : Int) : 0 ≤ modOf n b ∧ modOf n b ≤ b.natAbs := by
  unfold modOf
  split
  · omega
  · have := Int.emod_nonneg n (b := b) (by omega)
    have := Int.emod_lt_of_pos n (b := b) (by omega)
    omega
theorem tmod_bd (n b : Int) (h : 1 ≤ b) : -b < n.tmod b ∧ n.tmod b < b := by
  have h1 := Int.tmod_lt_of_pos n (show 0 < b by omega)
  have h2 := Int.lt_tmod_of_pos n (show 0 < b by omega)
  omega
theorem tmod_mod (n b : Int) (h : 1 ≤ b) : (n.tmod b + b) % b = n % b := by
  rw [Int.add_emod_right]
  rw [Int.tmod_eq_emod]
  split
  · simp
  · rw [show ((b.natAbs : Nat) : Int) = b by omega]
    simp

set_option maxHeartbeats 400000 in
theorem mod_any (n b : Int) (w : World) (hb : b ≤ 4611686018427387904) :
    Calls Try.prog 121 #[.int .i64 n, .int .i64 b] w fun e w' => e = .returned (.int .i64 (modOf n b)) ∧ w = w' := by
  by_cases h : b < 1
  · go_enter Try.func121, Try.ntmps121
    go_wp2
    go_ret
    exact ⟨ret_int (by unfold modOf; rw [if_pos h]), rfl⟩
  · have hlo : 1 ≤ b := by omega
    obtain ⟨hb1, hb2⟩ := tmod_bd n b hlo
    have hz : (b == 0) = false := by simp; omega
    go_enter Try.func121, Try.ntmps121
    go_wp2
    go_ret
    exact ⟨ret_int (by rw [modOf_pos n b hlo]; rw [← tmod_mod n b hlo]; simp), rfl⟩

def digOf (c : UInt8) : Int := if 97 ≤ (c.toNat : Int) then ((c.toNat : Int) - 97) % 256 + 10 else ((c.toNat : Int) - 48) % 256
def numOf (l : List UInt8) : Int := l.foldl (fun n c => 16 * n + digOf c) 0
theorem digOf_bd (c : UInt8) : 0 ≤ digOf c ∧ digOf c ≤ 255 := by
  have hc : c.toNat < 256 := c.toNat_lt
  unfold digOf
  split <;> omega
theorem numOf_snoc (l : List UInt8) (c : UInt8) : numOf (l ++ [c]) = 16 * numOf l + digOf c := by simp [numOf, List.foldl_append]
theorem numOf_bd (l : List UInt8) (h : l.length ≤ 4) : 0 ≤ numOf l ∧ numOf l ≤ 1114112 := by
  have key : ∀ l : List UInt8, 0 ≤ numOf l ∧ numOf l ≤ 17 * (16 : Int) ^ l.length - 17 := by
    intro l
    obtain ⟨r, rfl⟩ : ∃ r : List UInt8, l = r.reverse := ⟨l.reverse, by simp⟩
    induction r with
    | nil => simp [numOf]
    | cons c r ih =>
      have := digOf_bd c
      rw [List.reverse_cons, numOf_snoc, List.length_append, List.length_singleton, Int.pow_succ]
      omega
  have hp : (16 : Int) ^ l.length ≤ 16 ^ 4 := by
    match l.length, h with
    | 0, _ => decide
    | 1, _ => decide
    | 2, _ => decide
    | 3, _ => decide
    | 4, _ => decide
  have := key l
  omega

def codesA : ByteArray := { data := #[52, 48, 99, 49, 99, 50, 99, 51, 99, 52, 99, 53, 99, 54, 99, 55, 99, 56, 99, 57, 52, 97, 52, 98, 52, 99, 52, 100, 52, 101, 52, 102, 53, 48, 100, 49, 100, 50, 100, 51, 100, 52, 100, 53, 100, 54, 100, 55, 100, 56, 100, 57, 53, 97, 53, 98, 53, 99, 53, 100, 53, 101, 53, 102, 54, 48, 54, 49, 101, 50, 101, 51, 101, 52, 101, 53, 101, 54, 101, 55, 101, 56, 101, 57, 54, 97, 54, 98, 54, 99, 54, 100, 54, 101, 54, 102, 102, 48, 102, 49, 102, 50, 102, 51, 102, 52, 102, 53, 102, 54, 102, 55, 102, 56, 102, 57, 55, 97, 55, 98, 55, 99, 55, 100, 55, 101, 55, 102] }
theorem codes_num0 : ∀ k : Fin 64, (codesA.extract (2 * k.val) (2 * k.val + 2)).size ≤ 4 ∧ numOf (codesA.extract (2 * k.val) (2 * k.val + 2)).data.toList = ((sixes.getD k.val 0 : Nat) : Int) := by decide +kernel
end Go.Proofs.Ytjokcfenncogkaa
