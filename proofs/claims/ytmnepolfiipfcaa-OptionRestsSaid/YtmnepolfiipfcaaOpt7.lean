/-
  Rows of structs; what is said to an option that isn't agreed to; Cut with its blocks. No condition.
-/
import Derived.Test.YtmnepolfiipfcaaOpt6
namespace Go.Proofs.Ytmnepolfiipfcaa
open Go.RowKit
set_option linter.unusedVariables false
set_option linter.unusedSimpArgs false

/-- a row of a list of structs, as it lies -/
theorem row_at {α : Type} {k : Nat} {enc : α → List Value} (hk : ∀ x, (enc x).length = k) {w : World} {B b off n : Nat} {L : List α} (h : Reads w B k (some ⟨b, off, none⟩) n (L.flatMap enc)) {j : Nat} {x : α} (hj : L[j]? = some x) (h0 : 0 < k) :
    ∀ i u, (enc x)[i]? = some u → w.cell? ⟨b, off + j * k + i, none⟩ = some u := by
  intro i u hu
  have hjl := (List.getElem?_eq_some_iff.1 hj).1
  have hL : L.length = n := by have := h.1; rw [flatMap_len hk] at this; exact Nat.eq_of_mul_eq_mul_right h0 this
  obtain ⟨b', off', e, hb, hc⟩ := h.2 (by omega)
  injection e with e
  injection e with e1 e2 _
  subst e1; subst e2
  rw [Nat.add_assoc]
  refine hc _ u ?_
  have hi : i < k := by have := (List.getElem?_eq_some_iff.1 hu).1; rw [hk] at this; exact this
  clear hc h hL
  induction L generalizing j with
  | nil => simp at hj
  | cons y L ih =>
    rw [List.flatMap_cons]
    cases j with
    | zero =>
      simp at hj
      subst hj
      rw [List.getElem?_append_left (by rw [hk]; omega)]
      simpa using hu
    | succ j =>
      rw [List.getElem?_append_right (by rw [hk, Nat.succ_mul]; omega), hk]
      rw [show (j + 1) * k + i - k = j * k + i by rw [Nat.succ_mul]; omega]
      exact ih (by simpa using hj) (by simp at hjl; omega)
theorem rows_len {α : Type} {k : Nat} {enc : α → List Value} (hk : ∀ x, (enc x).length = k) {w : World} {B n : Nat} {A : Option Addr} {L : List α} (h : Reads w B k A n (L.flatMap enc)) (h0 : 0 < k) : L.length = n := by
  have := h.1; rw [flatMap_len hk] at this; exact Nat.eq_of_mul_eq_mul_right h0 this

abbrev OpT := Bool × Int × Int × Int × Bool
def encOp (x : OpT) : List Value := [.bool x.1, .int .u8 x.2.1, .int .u8 x.2.2.1, .int .i64 x.2.2.2.1, .bool x.2.2.2.2]
theorem op_at {w : World} {B b off n : Nat} {L : List OpT} (h : Reads w B 5 (some ⟨b, off, none⟩) n (L.flatMap encOp)) {j : Nat} {x : OpT} (hj : L[j]? = some x) :
    w.cell? ⟨b, off + j * 5, none⟩ = some (.bool x.1) ∧ w.cell? ⟨b, off + j * 5 + 1, none⟩ = some (.int .u8 x.2.1) ∧ w.cell? ⟨b, off + j * 5 + 2, none⟩ = some (.int .u8 x.2.2.1) ∧ w.cell? ⟨b, off + j * 5 + 3, none⟩ = some (.int .i64 x.2.2.2.1) ∧ w.cell? ⟨b, off + j * 5 + 4, none⟩ = some (.bool x.2.2.2.2) := by
  have := row_at (enc := encOp) (k := 5) (fun _ => rfl) h hj (by decide)
  exact ⟨this 0 _ rfl, this 1 _ rfl, this 2 _ rfl, this 3 _ rfl, this 4 _ rfl⟩

def RInv (S : Nat → Nat → Int) (G : Nat → Nat → Bool) : Prop := ∀ i o, G i o = false → S i o = 0
theorem RInv.hear {v : Int} {k : Nat} {S : Nat → Nat → Int} {G : Nat → Nat → Bool} (h : RInv S G) : RInv (hearS v k S G) G := by
  intro i o hg
  rw [hs_next, h i o hg, hg]
  split
  · unfold nextOf; split <;> rfl
  · rfl
theorem still_off {v : Int} {k i : Nat} {S : Nat → Nat → Int} {G : Nat → Nat → Bool} (h : RInv S G) (hg : G i k = false) : (hearS v k S G i k == 1) = false := by rw [h.hear i k hg]; rfl
/-- he asks, and is refused -/
theorem on_refused {v : Int} {k i : Nat} {S : Nat → Nat → Int} {G : Nat → Nat → Bool} (h : RInv S G) (hi : i = sideOf v) (hg : G i k = false) (hv : v = 251 ∨ v = 253) {x : Int} (hx : verbOf (i : Int) 1 = x) : hearL v k S G = [(x, (k : Int))] := by
  subst hx
  subst hi
  have hs := h _ _ hg
  rcases hv with rfl | rfl <;> simp only [hearL, hs, hg, isVerb, wordOf] <;> rfl
theorem off_refused {v : Int} {k i : Nat} {S : Nat → Nat → Int} {G : Nat → Nat → Bool} (h : RInv S G) (hi : i = sideOf v) (hg : G i k = false) (hv : v = 252 ∨ v = 254) : hearL v k S G = [] := by
  subst hi
  have hs := h _ _ hg
  rcases hv with rfl | rfl <;> simp only [hearL, hs, hg, isVerb, wordOf] <;> rfl
theorem cut_own {A : Option Addr} {n c : Nat} {l : List Int} {w : World} (hr : Reads w w.heap.size 1 A n (bs l)) (hn : n ≤ c) (hc : c ≤ maxLen) (m : Int) (hm : 0 ≤ m) (hm' : m ≤ 65536) :
    Calls Try.prog 9 #[.slice A n c, .int .i64 m] w fun e w' => ∃ A' n' c', e = .returned (.slice A' n' c') ∧ (n' : Int) ≤ m ∧ Reads w' w'.heap.size 1 A' n' (bs (l.take m.toNat)) ∧ (∀ p, A' = some p → w.heap.size ≤ p.block) ∧ n' ≤ c' ∧ c' ≤ maxLen ∧ Up w w' := by
  refine (cut_any A n c l m w hr hn hc hm hm').mono ?_
  rintro e w' ⟨A', n', c', rfl, h1, h2, h3, h4, h5⟩
  refine ⟨A', n', c', rfl, ?_, Reads.of_own h2, ?_, h3, h4, h5⟩
  · have : (n' : Int) ≤ (m.toNat : Int) := by rw [h1]; exact_mod_cast Nat.min_le_right _ _
    omega
  · rintro p rfl
    have := own_bd h2 p.block
    rcases h2.2 with ⟨e1, _⟩ | ⟨g, cap, cur, e1, h6, _⟩
    · cases e1
    · injection e1 with e1 _ _
      injection e1 with e1
      subst e1
      exact h6
end Go.Proofs.Ytmnepolfiipfcaa
