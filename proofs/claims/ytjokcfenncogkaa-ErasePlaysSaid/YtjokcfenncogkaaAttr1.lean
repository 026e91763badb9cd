/-
  What the field attribute's functions compute (program and reference): Bits, Byte, Of, Skipped, Hidden, Detectable, and the reference's Six. No condition.
-/
import Derived.Test.YtjokcfenncogkaaNum
namespace Go.Proofs.Ytjokcfenncogkaa
open Go.RowKit
set_option linter.unusedVariables false
set_option linter.unusedSimpArgs false

def fbits (p n : Bool) (d : Int) (m : Bool) : Int := 4 * d + (if p then 32 else 0) + (if n then 16 else 0) + (if m then 1 else 0)
theorem fbits_bd (p n : Bool) (d : Int) (m : Bool) (h0 : 0 ≤ d) (h1 : d ≤ 3) : 0 ≤ fbits p n d m ∧ fbits p n d m ≤ 63 := by
  unfold fbits
  cases p <;> cases n <;> cases m <;> simp <;> omega

theorem fbits_000 : ∀ k : Fin 4, ((k.val : Int) * 4) = fbits false false (k.val : Int) false := by decide +kernel
theorem fbits_001 : ∀ k : Fin 4, (bits .or .u8 ((k.val : Int) * 4) 1) = fbits false false (k.val : Int) true := by decide +kernel
theorem fbits_010 : ∀ k : Fin 4, (bits .or .u8 ((k.val : Int) * 4) 16) = fbits false true (k.val : Int) false := by decide +kernel
theorem fbits_011 : ∀ k : Fin 4, (bits .or .u8 (bits .or .u8 ((k.val : Int) * 4) 16) 1) = fbits false true (k.val : Int) true := by decide +kernel
theorem fbits_100 : ∀ k : Fin 4, (bits .or .u8 ((k.val : Int) * 4) 32) = fbits true false (k.val : Int) false := by decide +kernel
theorem fbits_101 : ∀ k : Fin 4, (bits .or .u8 (bits .or .u8 ((k.val : Int) * 4) 32) 1) = fbits true false (k.val : Int) true := by decide +kernel
theorem fbits_110 : ∀ k : Fin 4, (bits .or .u8 (bits .or .u8 ((k.val : Int) * 4) 32) 16) = fbits true true (k.val : Int) false := by decide +kernel
theorem fbits_111 : ∀ k : Fin 4, (bits .or .u8 (bits .or .u8 (bits .or .u8 ((k.val : Int) * 4) 32) 16) 1) = fbits true true (k.val : Int) true := by decide +kernel

set_option maxHeartbeats 400000 in
theorem ref_bits_bad (p n m : Bool) (d : Int) (w : World) (h : d < 0 ∨ 3 < d) :
    Calls Try.prog 155 #[.agg #[.bool p, .bool n, .int .i64 d, .bool m]] w fun e w' => e = .returned (.tuple #[.int .u8 0, .int .i64 1]) ∧ Up w w' := by
  rcases h with h | h
  all_goals
    go_enter Try.func155, Try.ntmps155
    go_wp2
    go_ret2
    exact ⟨rfl, (Up.refl _).alloc _⟩
set_option maxHeartbeats 800000 in
theorem ref_bits_good (p n m : Bool) (d : Int) (w : World) (h0 : 0 ≤ d) (h1 : d ≤ 3) :
    Calls Try.prog 155 #[.agg #[.bool p, .bool n, .int .i64 d, .bool m]] w fun e w' => e = .returned (.tuple #[.int .u8 (fbits p n d m), .int .i64 0]) ∧ Up w w' := by
  have ha : ¬ d < 0 := by omega
  have hb : ¬ 3 < d := by omega
  cases p <;> cases n <;> cases m
  all_goals
    go_enter Try.func155, Try.ntmps155
    go_wp2
    go_ret2
    exact ⟨ret_pair (by simp [fbits]) rfl, (Up.refl _).alloc _⟩

def fP (b : Int) : Bool := decide (b / 32 % 2 = 1)
def fN (b : Int) : Bool := decide (b / 16 % 2 = 1)
def fD (b : Int) : Int := b / 4 % 4
def fM (b : Int) : Bool := decide (b % 2 = 1)
theorem fD_bd (b : Int) : 0 ≤ fD b ∧ fD b ≤ 3 := by unfold fD; omega
theorem of_bits : ∀ k : Fin 256, (bits .and .u8 (k.val : Int) 32 != 0) = fP k.val ∧ (bits .and .u8 (k.val : Int) 16 != 0) = fN k.val ∧ bits .and .u8 (k.val : Int) 12 / 4 = fD k.val ∧ (bits .and .u8 (k.val : Int) 1 != 0) = fM k.val ∧
    0 ≤ bits .and .u8 (k.val : Int) 12 ∧ bits .and .u8 (k.val : Int) 12 ≤ 12 := by decide +kernel

set_option maxHeartbeats 400000 in
theorem of_any (b : Int) (w : World) (h0 : 0 ≤ b) (h1 : b ≤ 255) :
    Calls Try.prog 124 #[.int .u8 b] w fun e w' => e = .returned (.agg #[.bool (fP b), .bool (fN b), .int .i64 (fD b), .bool (fM b)]) ∧ Up w w' := by
  obtain ⟨k, rfl⟩ : ∃ k : Fin 256, b = k.val := ⟨⟨b.toNat, by omega⟩, by simp; omega⟩
  obtain ⟨e1, e2, e3, e4, e5, e6⟩ := of_bits k
  go_enter Try.func124, Try.ntmps124
  go_wp2
  refine bodyPost_ret (v := .agg #[.bool (fP k.val), .bool (fN k.val), .int .i64 (fD k.val), .bool (fM k.val)]) (by simp [results, Try.results124, go_sem]) rfl ⟨rfl, (Up.refl _).alloc _⟩

theorem ref_of_bits : ∀ k : Fin 256, decide (32 ≤ (k.val : Int) % 64) = fP k.val ∧ ((k.val : Int) % 64 / 16 % 2 == 1) = fN k.val ∧ (k.val : Int) % 64 / 4 % 4 = fD k.val ∧ ((k.val : Int) % 2 == 1) = fM k.val := by decide +kernel
set_option maxHeartbeats 400000 in
theorem ref_of_any (b : Int) (w : World) (h0 : 0 ≤ b) (h1 : b ≤ 255) :
    Calls Try.prog 125 #[.int .u8 b] w fun e w' => e = .returned (.agg #[.bool (fP b), .bool (fN b), .int .i64 (fD b), .bool (fM b)]) ∧ Up w w' := by
  obtain ⟨k, rfl⟩ : ∃ k : Fin 256, b = k.val := ⟨⟨b.toNat, by omega⟩, by simp; omega⟩
  obtain ⟨e1, e2, e3, e4⟩ := ref_of_bits k
  go_enter Try.func125, Try.ntmps125
  go_wp2
  refine bodyPost_ret (v := .agg #[.bool (fP k.val), .bool (fN k.val), .int .i64 (fD k.val), .bool (fM k.val)]) (by simp [results, Try.results125, go_sem]) rfl ⟨rfl, (Up.refl _).alloc _⟩
set_option maxHeartbeats 400000 in
theorem skipped_any (p n m : Bool) (d : Int) (w : World) :
    Calls Try.prog 135 #[.agg #[.bool p, .bool n, .int .i64 d, .bool m]] w fun e w' => e = .returned (.bool (p && n)) ∧ Up w w' := by
  cases p
  all_goals
    go_enter Try.func135, Try.ntmps135
    go_wp2
    go_ret
    exact ⟨ret_bool (by simp), (Up.refl _).alloc _⟩
theorem fP_mod (b : Int) : fP (b % 64) = fP b := by unfold fP; congr 1; rw [eq_iff_iff]; omega
theorem fN_mod (b : Int) : fN (b % 64) = fN b := by unfold fN; congr 1; rw [eq_iff_iff]; omega
theorem fD_mod (b : Int) : fD (b % 64) = fD b := by unfold fD; omega
theorem fM_mod (b : Int) : fM (b % 64) = fM b := by unfold fM; congr 1; rw [eq_iff_iff]; omega
theorem of_fbits0 : ∀ (p n m : Bool) (d : Fin 4), fP (fbits p n d.val m) = p ∧ fN (fbits p n d.val m) = n ∧ fD (fbits p n d.val m) = d.val ∧ fM (fbits p n d.val m) = m := by decide +kernel
theorem of_fbits (p n m : Bool) (d : Int) (h0 : 0 ≤ d) (h1 : d ≤ 3) (b : Int) (hb : b % 64 = fbits p n d m) : fP b = p ∧ fN b = n ∧ fD b = d ∧ fM b = m := by
  have h := of_fbits0 p n m ⟨d.toNat, by omega⟩
  have e : ((d.toNat : Nat) : Int) = d := by omega
  simp only [e] at h
  rw [← hb, fP_mod, fN_mod, fD_mod, fM_mod] at h
  exact h
theorem sixOf_mod (n : Int) : sixOf (n % 64) = sixOf n := by unfold sixOf; rw [Int.emod_emod_of_dvd _ (by decide)]
theorem sixOf_low : ∀ k : Fin 64, sixOf k.val % 64 = k.val := by decide +kernel
theorem sixOf_emod (n : Int) : sixOf n % 64 = n % 64 := by
  have h := sixOf_low ⟨(n % 64).toNat, by omega⟩
  rw [← sixOf_mod n]
  have e : (((n % 64).toNat : Nat) : Int) = n % 64 := by omega
  simp only [e] at h
  exact h
end Go.Proofs.Ytjokcfenncogkaa
