/-
  What slices.Collect over ints makes of an iterator (ItN). No condition.
-/
import Derived.Test.YthdoighlfoinaaaListI
import Derived.Test.YthdoighlfoinaaaRf
namespace Go.Proofs.Ythdoighlfoinaaa
open Go.RowKit
set_option linter.unusedVariables false
set_option linter.unusedSimpArgs false
attribute [local go_sem] Oper.semAt_some

theorem Keep.past2 {T N : Nat → Prop} {w W W' : World} (h : Keep T w W) (hk : Keep N W W') (hn : ∀ k, N k → w.heap.size ≤ k ∨ T k) : Keep T w W' :=
  ⟨hk.os.trans h.os, hk.tape.trans h.tape, hk.output.trans h.output, Nat.le_trans h.size hk.size, fun k hlt ht => (hk.block k (by have := h.size; omega) (fun e => by rcases hn k e with h | h; omega; exact ht h)).trans (h.block k hlt ht)⟩
/-- a box that holds the ints that have come; N are others' blocks -/
structure OutB (T : Nat → Prop) (w : World) (B ob : Nat) (N : Nat → Prop) (pre : List Int) (W : World) : Prop where
  up : Keep T w W
  ex : ∃ A n c, W.cell? ⟨ob, 0, none⟩ = some (.slice A n c) ∧ W.frozen? ⟨ob, 0, none⟩ = false ∧ OwnI B W A n c pre ∧ ∀ p, A = some p → ¬ N p.block
  no : ¬ N ob
  nw : ∀ k, N k → w.heap.size ≤ k ∨ T k
  bw : B ≤ W.heap.size
theorem OutB.own {T : Nat → Prop} {w : World} {B ob : Nat} : Own2 (OutB T w B ob) := by
  rintro N N' s W W' ⟨h1, ⟨A, n, c, h2, h3, h4, h5⟩, h6, h7, h8⟩ hk hn
  have zo := cell_lt h2
  refine ⟨h1.past2 hk h7, ⟨A, n, c, ((hk.at_ ob zo h6).1 0).trans h2, ((hk.at_ ob zo h6).2 0).trans h3, h4.held hk h5, fun p hp h => ?_⟩, fun h => ?_, fun k h => ?_, by have := hk.size; omega⟩
  · rcases hn _ h with h | h
    · exact h5 p hp h
    · have := (h4.at_ p hp).2; omega
  · rcases hn _ h with h | h
    · exact h6 h
    · have : ob < W.heap.size := zo; omega
  · rcases hn _ h with h | h
    · exact h7 k h
    · have := h1.size; left; omega
theorem OutB.fin {T : Nat → Prop} {w : World} {B ob : Nat} {N : Nat → Prop} {pre : List Int} {W : World} (h : OutB T w B ob N pre W) : ∃ A c, W.cell? ⟨ob, 0, none⟩ = some (.slice A pre.length c) ∧ OwnI B W A pre.length c pre := by
  obtain ⟨A, n, c, h2, h3, h4, h5⟩ := h.ex
  have := h4.len
  subst this
  exact ⟨A, c, h2, h4⟩
/-- what a round's append leaves -/
theorem OutB.push {T : Nat → Prop} {v : Value} {w : World} {B ob : Nat} {N : Nat → Prop} {pre : List Int} {x : Int} {W W' : World} {A A2 : Option Addr} {n c2 : Nat} {r : Option Nat} (hi : OutB T w B ob N pre W) (hz : ∀ k, N k → k < W.heap.size) (hA : ∀ p, A = some p → ¬ N p.block)
    (hown : OwnI B W' A2 (n + 1) c2 (pre ++ [x])) (hg : (W.alloc (.cells #[.int .i64 x] 3)).grownBy W' r) (hr' : ∀ k, r = some k → ∃ p, A = some p ∧ p.block = k) (hbl : Below B W W') (hob : ob < B) (hwB : w.heap.size ≤ B)
    (hp : ∀ p, A2 = some p → (∃ p', A = some p' ∧ p.block = p'.block) ∨ W.heap.size < p.block) (hc : W'.cell? ⟨ob, 0, none⟩ = some v) (hf : W'.frozen? ⟨ob, 0, none⟩ = false) (hwo : T ob ∨ w.heap.size ≤ ob) :
    Held N W (W'.setCell ⟨ob, 0, none⟩ (.slice A2 (n + 1) c2)) ∧ OutB T w B ob N (pre ++ [x]) (W'.setCell ⟨ob, 0, none⟩ (.slice A2 (n + 1) c2)) := by
  have hH : Held N W (W'.setCell ⟨ob, 0, none⟩ (.slice A2 (n + 1) c2)) := fun k hk => by
    have hkz := hz k hk
    have h1 : k ≠ ob := fun e => hi.no (e ▸ hk)
    rw [Below.heap_setCell W' ⟨ob, 0, none⟩ _ k h1]
    rw [hg.block k (by simp; omega) (fun e => by
      obtain ⟨p, hp1, hp2⟩ := hr' k e.symm
      exact hA p hp1 (hp2 ▸ hk))]
    exact Below.heap_alloc _ _ _ hkz
  refine ⟨hH, ⟨?_, ⟨A2, n + 1, c2, World.cell?_setCell_same (h := hc) .., by rw [World.frozen?_setCell]; exact hf, hown.far (by exact hob) _, fun p hp' h => ?_⟩, hi.no, hi.nw, by have := hbl.size; have := hi.bw; simp [World.setCell]; omega⟩⟩
  · exact (hi.up.far (hbl.mono hwB)).setCell hwo _
  · rcases hp p hp' with ⟨p', h1, h2⟩ | h1
    · exact hA p' h1 (h2 ▸ h)
    · have := hz _ h; omega

end Go.Proofs.Ythdoighlfoinaaa
