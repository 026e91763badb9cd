/-
  What a page's build computes: its signs and its map of codes. No condition.
-/
import Derived.Test.YthdoighlfoinaaaDoorPage3
import Derived.Test.YthdoighlfoinaaaDoorPage2
import Derived.Test.YthdoighlfoinaaaDoorPageRow
namespace Go.Proofs.YthdoighlfoinaaaDoor
open Go.RowKit Go.Maps
set_option linter.unusedVariables false
set_option linter.unusedSimpArgs false

/-- a row of a list of structs, as it lies -/
theorem row_at {α : Type} {k : Nat} {enc : α → List Value} (hk : ∀ x, (enc x).length = k) {w : World} {B b off n : Nat} {L : List α} (h : Reads w B k (some ⟨b, off, none⟩) n (L.flatMap enc)) {j : Nat} {x : α} (hj : L[j]? = some x) (h0 : 0 < k) :
    ∀ i u, (enc x)[i]? = some u → w.cell? ⟨b, off + j * k + i, none⟩ = some u := by
  intro i u hu
  have hjl := (List.getElem?_eq_some_iff.1 hj).1
  have hL : L.length = n := by have := h.1; rw [flatMap_len hk] at this; exact Nat.eq_of_mul_eq_mul_right h0 this
  obtain ⟨b', off', e, hb, hc⟩ := h.2 (by omega)
  injection e with e
  injection e with e1 e2 _
  subst e1; subst e2
  rw [Nat.add_assoc]
  refine hc _ u ?_
  have hi : i < k := by have := (List.getElem?_eq_some_iff.1 hu).1; rw [hk] at this; exact this
  clear hc h hL
  induction L generalizing j with
  | nil => simp at hj
  | cons y L ih =>
    rw [List.flatMap_cons]
    cases j with
    | zero =>
      simp at hj
      subst hj
      rw [List.getElem?_append_left (by rw [hk]; omega)]
      simpa using hu
    | succ j =>
      rw [List.getElem?_append_right (by rw [hk, Nat.succ_mul]; omega), hk]
      rw [show (j + 1) * k + i - k = j * k + i by rw [Nat.succ_mul]; omega]
      exact ih (by simpa using hj) (by simp at hjl; omega)
theorem part_one {P : Program} {t : TypeId} {d : TypeDesc} (hu : P.underlying t = some d) (hd : d.isRow = false) (cs : Array Value) (off : Nat) (v : Value) (hv : cs[off]? = some v) (w : World) :
    (part t cs off).run P w = .ok v w := by
  have hagg : (isAgg t).run P w = .ok false w := by
    unfold isAgg
    rw [Sem.run_bind, run_underlying hu w]
    cases d <;> simp_all [TypeDesc.isRow]
  simp [part, Sem.run_bind, hagg, hv]
theorem run_index_arr {P : Program} {t e : TypeId} {n size : Nat} {cs : Array Value} {v : Value} {w : World} (hu : P.underlying t = some (.array n e)) (i : Nat) (hi : i < n) (hs : (P.info? e).map (·.size) = some size) (hp : (part e cs (i * size)).run P w = .ok v w) :
    (Instr.index t (.agg cs) (.int .i64 (i : Int))).run P w = .ok v w := by
  have hi' : (i : Int) < n := by omega
  cases hq : P.info? e with
  | none => simp [hq] at hs
  | some x =>
    have hx : x.size = size := by simpa [hq] using hs
    simpa [Instr.index, run_underlying hu, asIntOf, hi', hi, go_sem, sizeOf, typeInfo, hq, hx] using hp
theorem rowV_at (d i : Nat) (hd : d < 16) (hi : i < 16) : (rowV d)[i]? = some (.int .u16 (base37.getD (16 * d + i) 0)) := by
  have hl := base37_len
  have h1 : ((base37.drop (16 * d)).take 16)[i]? = some (base37.getD (16 * d + i) 0) := by
    rw [List.getElem?_take, if_pos hi, List.getElem?_drop, List.getD, List.getElem?_eq_getElem (by omega)]
    rfl
  unfold rowV
  rw [List.getElem?_toArray, List.getElem?_map, h1]
  rfl
theorem idx_row (d i : Nat) (hd : d < 16) (hi : i < 16) (w : World) : (Instr.index 91 (.agg (rowV d)) (.int .i64 (i : Int))).run Tryd.prog w = .ok (.int .u16 (base37.getD (16 * d + i) 0)) w := by
  refine run_index_arr Tryd.underlying91 i hi (size := 1) (by kernel_rfl) ?_
  exact part_one Tryd.underlying86 rfl _ _ _ (by rw [Nat.mul_one]; exact rowV_at d i hd hi) w
/-- the signs as cells -/
def sgs (S : Nat → Int) : List Value := (List.range 256).map fun i => .int .i32 (S i)
theorem sgs_at (S : Nat → Int) (i : Nat) (hi : i < 256) : (sgs S)[i]? = some (.int .i32 (S i)) := by
  unfold sgs
  rw [List.getElem?_map, List.getElem?_range hi]
  rfl
theorem sgs_len (S : Nat → Int) : (sgs S).length = 256 := by simp [sgs]
theorem idx_sg (S : Nat → Int) (i : Nat) (hi : i < 256) (w : World) : (Instr.index 71 (.agg (sgs S).toArray) (.int .i64 (i : Int))).run Tryd.prog w = .ok (.int .i32 (S i)) w := by
  refine run_index_arr Tryd.underlying71 i hi (size := 1) (by kernel_rfl) ?_
  exact part_one Tryd.underlying21 rfl _ _ _ (by rw [Nat.mul_one]; exact (List.getElem?_toArray ..).trans (sgs_at S i hi)) w
theorem PCells.range {w : World} {b : Nat} {k dn st : Int} {S : Nat → Int} {mp : Option Nat} (h : PCells w b k dn st S mp) : w.rangeAt b 4 (sgs S) := by
  intro j v hv
  have hj : j < 256 := by have := (List.getElem?_eq_some_iff.1 hv).1; rwa [sgs_len] at this
  rw [sgs_at S j hj] at hv
  injection hv with hv
  subst hv
  exact h.sg j hj
theorem base_bd (i : Nat) : 0 ≤ base37.getD i 0 ∧ base37.getD i 0 ≤ 65535 := by
  have h : smallB base37 = true := small_all.1
  by_cases hi : i < base37.length
  · have := List.all_eq_true.1 h _ (List.getElem_mem hi)
    rw [List.getD, List.getElem?_eq_getElem hi]
    simpa using this
  · rw [List.getD, List.getElem?_eq_none (by omega)]
    decide
/-- behind the first n signs of page 37 -/
def sgBase (n : Nat) (i : Nat) : Int := if i < n then base37.getD i 0 else 0
theorem sgBase_step (n : Nat) (i : Nat) : (if i = n then base37.getD n 0 else sgBase n i) = sgBase (n + 1) i := by
  unfold sgBase
  by_cases h : i = n
  · subst h; rw [if_pos rfl, if_pos (by omega)]
  · rw [if_neg h]
    by_cases h2 : i < n
    · rw [if_pos h2, if_pos (by omega)]
    · rw [if_neg h2, if_neg (by omega)]
/-- behind the first j of the others -/
def sgOth (k : Int) (j : Nat) (i : Nat) : Int := (setAll base37 ((ovrL k).take j)).getD i 0
theorem sgOth_zero (k : Int) (i : Nat) (hi : i < 256) : sgBase 256 i = sgOth k 0 i := by
  unfold sgBase sgOth
  rw [if_pos hi]
  rfl
theorem sgOth_step (k : Int) (j : Nat) (p : Int × Int) (h : (ovrL k)[j]? = some p) (i : Nat) (hi : i < 256) : (if i = p.1.toNat then p.2 else sgOth k j i) = sgOth k (j + 1) i := by
  unfold sgOth
  rw [setAll_take _ _ _ _ h]
  have hl : (setAll base37 ((ovrL k).take j)).length = 256 := by rw [setAll_len, base37_len]
  simp only [List.getD, List.getElem?_set]
  by_cases e : i = p.1.toNat
  · subst e; rw [if_pos rfl, if_pos rfl, if_pos (by omega)]; rfl
  · rw [if_neg e, if_neg (fun h => e h.symm)]
theorem sgOth_end (k : Int) (i : Nat) : sgOth k (ovrL k).length i = signN k i := by
  unfold sgOth signN signsL
  rw [List.take_length]
def pairB (p : Int × Int) : Bool := decide (0 ≤ p.1) && decide (p.1 ≤ 255) && decide (0 ≤ p.2) && decide (p.2 ≤ 65535)
theorem ovr_bd (k : Int) {j : Nat} {p : Int × Int} (h : (ovrL k)[j]? = some p) : (0 ≤ p.1 ∧ p.1 ≤ 255) ∧ 0 ≤ p.2 ∧ p.2 ≤ 65535 := by
  have ha : (ovrL k).all pairB = true := by
    unfold ovrL
    split
    · decide +kernel
    split
    · decide +kernel
    split
    · decide +kernel
    split
    · decide +kernel
    split
    · decide +kernel
    decide +kernel
  have := List.all_eq_true.1 ha p (List.mem_of_getElem? h)
  simp only [pairB, Bool.and_eq_true, decide_eq_true_eq] at this
  omega
theorem ovr_len (k : Int) : (ovrL k).length ≤ 25 := by
  unfold ovrL
  split
  · decide +kernel
  split
  · decide +kernel
  split
  · decide +kernel
  split
  · decide +kernel
  split
  · decide +kernel
  decide +kernel
theorem key32 : Keyed Tryd.prog 21 := int_keyed Tryd.underlying21
end Go.Proofs.YthdoighlfoinaaaDoor
