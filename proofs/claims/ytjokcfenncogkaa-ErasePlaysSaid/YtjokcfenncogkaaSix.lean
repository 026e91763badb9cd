/-
  The six-bit codes: what addr.zone and addr.Six compute, for every number. No condition.
-/
import Derived.Test.YtjokcfenncogkaaCore
namespace Go.Proofs.Ytjokcfenncogkaa
open Go.RowKit
set_option linter.unusedVariables false

def sixes : List Nat := [0x40, 0xc1, 0xc2, 0xc3, 0xc4, 0xc5, 0xc6, 0xc7, 0xc8, 0xc9, 0x4a, 0x4b, 0x4c, 0x4d, 0x4e, 0x4f,
  0x50, 0xd1, 0xd2, 0xd3, 0xd4, 0xd5, 0xd6, 0xd7, 0xd8, 0xd9, 0x5a, 0x5b, 0x5c, 0x5d, 0x5e, 0x5f,
  0x60, 0x61, 0xe2, 0xe3, 0xe4, 0xe5, 0xe6, 0xe7, 0xe8, 0xe9, 0x6a, 0x6b, 0x6c, 0x6d, 0x6e, 0x6f,
  0xf0, 0xf1, 0xf2, 0xf3, 0xf4, 0xf5, 0xf6, 0xf7, 0xf8, 0xf9, 0x7a, 0x7b, 0x7c, 0x7d, 0x7e, 0x7f]
/-- the code of the lower six bits -/
def sixOf (n : Int) : Int := ((sixes.getD (n % 64).toNat 0 : Nat) : Int)

theorem sixes_le : ∀ k : Fin 64, 0 ≤ ((sixes.getD k.val 0 : Nat) : Int) ∧ ((sixes.getD k.val 0 : Nat) : Int) ≤ 255 := by decide
theorem sixOf_bd (n : Int) : 0 ≤ sixOf n ∧ sixOf n ≤ 255 := sixes_le ⟨(n % 64).toNat, by omega⟩

theorem i64_and63 (n : Int) : bits .and .i64 n 63 = n % 64 := by
  have h127 : (BitVec.ofInt 64 63).toNat = 2 ^ 6 - 1 := by decide
  have key : (BitVec.ofInt 64 n &&& BitVec.ofInt 64 63).toNat = (n % ((2 ^ 64 : Nat) : Int)).toNat % 2 ^ 6 := by
    rw [BitVec.toNat_and, BitVec.toNat_ofInt, h127, Nat.and_two_pow_sub_one_eq_mod]
  show IntKind.i64.wrap ((BitVec.ofInt 64 n &&& BitVec.ofInt 64 63).toNat : Nat) = n % 64
  rw [key, IntKind.wrap_i64]
  omega
theorem i64_and15 (n : Int) : bits .and .i64 n 15 = n % 16 := by
  have h127 : (BitVec.ofInt 64 15).toNat = 2 ^ 4 - 1 := by decide
  have key : (BitVec.ofInt 64 n &&& BitVec.ofInt 64 15).toNat = (n % ((2 ^ 64 : Nat) : Int)).toNat % 2 ^ 4 := by
    rw [BitVec.toNat_and, BitVec.toNat_ofInt, h127, Nat.and_two_pow_sub_one_eq_mod]
  show IntKind.i64.wrap ((BitVec.ofInt 64 n &&& BitVec.ofInt 64 15).toNat : Nat) = n % 16
  rw [key, IntKind.wrap_i64]
  omega

def zoneMark (n : Int) : Int := if n / 16 = 0 then 64 else if n / 16 = 1 then 80 else if n / 16 = 2 then 96 else 112
def zoneFirst (n : Int) : Int := if n / 16 = 0 then 1 else if n / 16 = 1 then 1 else if n / 16 = 2 then 2 else 0

theorem six_letter0 : ∀ k : Fin 64, zoneFirst (k.val : Int) ≤ (k.val : Int) % 16 → (k.val : Int) % 16 ≤ 9 → bits .or .u8 (zoneMark (k.val : Int) + 128) ((k.val : Int) % 16) = ((sixes.getD k.val 0 : Nat) : Int) := by decide +kernel
theorem six_mark0 : ∀ k : Fin 64, ¬ (zoneFirst (k.val : Int) ≤ (k.val : Int) % 16 ∧ (k.val : Int) % 16 ≤ 9) → bits .or .u8 (zoneMark (k.val : Int)) ((k.val : Int) % 16) = ((sixes.getD k.val 0 : Nat) : Int) := by decide +kernel

theorem six_letter (n m : Int) (hm : m = n % 64) (h : zoneFirst m ≤ m % 16) (h' : m % 16 ≤ 9) : bits .or .u8 (zoneMark m + 128) (m % 16) = sixOf n := by
  have h0 : ((m.toNat : Nat) : Int) = m := by omega
  have := six_letter0 ⟨m.toNat, by omega⟩
  simp only [h0] at this
  rw [this h h', sixOf, ← hm]
theorem six_mark (n m : Int) (hm : m = n % 64) (h : m % 16 < zoneFirst m ∨ 9 < m % 16) : bits .or .u8 (zoneMark m) (m % 16) = sixOf n := by
  have h0 : ((m.toNat : Nat) : Int) = m := by omega
  have := six_mark0 ⟨m.toNat, by omega⟩
  simp only [h0] at this
  rw [this (by omega), sixOf, ← hm]

end Go.Proofs.Ytjokcfenncogkaa
