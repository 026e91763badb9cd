/-
  What a call leaves of memory where it may write to some blocks. No condition.
-/
import Derived.Test.YtfknakcjhlonoaaApp
namespace Go.Proofs.Ytfknakcjhlonoaa
open Go.RowKit
set_option linter.unusedVariables false

/-- all blocks that were there are as they were, but those of E -/
structure Keep (E : Nat → Prop) (w w' : World) : Prop where
  os : w'.os = w.os
  tape : w'.tape = w.tape
  output : w'.output = w.output
  size : w.heap.size ≤ w'.heap.size
  block : ∀ k, k < w.heap.size → ¬ E k → w'.heap[k]? = w.heap[k]?
section
variable {E F : Nat → Prop} {a b c : World}
theorem Keep.refl (E : Nat → Prop) (w : World) : Keep E w w := ⟨rfl, rfl, rfl, Nat.le_refl _, fun _ _ _ => rfl⟩
theorem Keep.trans (h : Keep E a b) (k : Keep E b c) : Keep E a c :=
  ⟨k.os.trans h.os, k.tape.trans h.tape, k.output.trans h.output, Nat.le_trans h.size k.size, fun i hi he => (k.block i (by have := h.size; omega) he).trans (h.block i hi he)⟩
theorem Keep.mono (h : Keep E a b) (he : ∀ k, E k → F k) : Keep F a b := ⟨h.os, h.tape, h.output, h.size, fun i hi hn => h.block i hi fun hE => hn (he i hE)⟩
theorem Keep.of_up (h : Up a b) : Keep E a b := ⟨h.os, h.tape, h.output, h.size, fun i hi _ => h.block i hi⟩
theorem Keep.drew (h : Keep E a b) : Keep E a b.drew := ⟨h.os, h.tape, h.output, h.size, h.block⟩
theorem Keep.drewN (h : Keep E a b) (n : Nat) : Keep E a (b.drewN n) := ⟨h.os, h.tape, h.output, h.size, h.block⟩
theorem Keep.alloc (h : Keep E a b) (o : Obj) : Keep E a (b.alloc o) := h.trans (Keep.of_up ((Up.refl b).alloc o))
theorem Keep.setCell (h : Keep E a b) {p : Addr} (hp : E p.block ∨ a.heap.size ≤ p.block) (u : Value) : Keep E a (b.setCell p u) :=
  ⟨h.os, h.tape, h.output, by simp [World.setCell]; exact h.size, fun i hi hn => (Below.heap_setCell b p u i (by
    intro e; subst e
    rcases hp with hp | hp
    · exact hn hp
    · omega)).trans (h.block i hi hn)⟩
theorem Keep.far (h : Keep E a b) (k : Below a.heap.size b c) : Keep E a c :=
  ⟨k.os.trans h.os, k.tape.trans h.tape, k.output.trans h.output, Nat.le_trans h.size k.size, fun i hi he => (k.block i hi).trans (h.block i hi he)⟩
theorem Keep.up (h : Keep E a b) (hu : Up b c) : Keep E a c := h.trans (Keep.of_up hu)
theorem Keep.at_ (h : Keep E a b) (n : Nat) (hn : n < a.heap.size) (he : ¬ E n) : (∀ o, b.cell? ⟨n, o, none⟩ = a.cell? ⟨n, o, none⟩) ∧ (∀ o, b.frozen? ⟨n, o, none⟩ = a.frozen? ⟨n, o, none⟩) :=
  ⟨fun o => World.cell?_of_block (h.block n hn he), fun o => World.frozen?_of_block (h.block n hn he)⟩
/-- what a call's own blocks suffer is nothing to what was there before -/
theorem Up.keep (h : Up a b) (k : Keep E b c) (he : ∀ i, E i → a.heap.size ≤ i) : Up a c :=
  ⟨k.os.trans h.os, k.tape.trans h.tape, k.output.trans h.output, Nat.le_trans h.size k.size, fun i hi => (k.block i (by have := h.size; omega) (fun hE => by have := he i hE; omega)).trans (h.block i hi)⟩
theorem Keep.upto (k : Keep E b c) (he : ∀ i, E i → b.heap.size ≤ i) : Up b c := (Up.refl b).keep k he
theorem Reads.kept {size n : Nat} {A : Option Addr} {xs : List Value} (h : Reads a a.heap.size size A n xs) (hk : Keep E a b) (he : ∀ p, A = some p → ¬ E p.block) : Reads b b.heap.size size A n xs := by
  refine ⟨h.1, fun hn => ?_⟩
  obtain ⟨g, off, e, hb, hc⟩ := h.2 hn
  subst e
  have hg := hk.at_ g hb (he _ rfl)
  exact ⟨g, off, rfl, by have := hk.size; omega, fun j u hu => (hg.1 _).trans (hc j u hu)⟩
/-- what lies below B, where the blocks written lie from B on -/
theorem Reads.held {B size n : Nat} {A : Option Addr} {xs : List Value} (h : Reads a B size A n xs) (hk : Keep E a b) (hB : B ≤ a.heap.size) (he : ∀ k, E k → B ≤ k) : Reads b B size A n xs :=
  h.keep fun p hp => World.cell?_of_block (hk.block p.block (by omega) (fun e => by have := he _ e; omega))
end
/-- as before, but in one block -/
def Near (b : Nat) (w w' : World) : Prop := Keep (fun k => k = b) w w'
theorem Near.set (b x : Nat) (w : World) (v : Value) : Near b w (w.setCell ⟨b, x, none⟩ v).drew := ((Keep.refl (fun k => k = b) w).setCell (p := ⟨b, x, none⟩) (.inl rfl) v).drew
theorem Near.up {b : Nat} {w a c : World} (h : Near b w a) (hu : Up a c) : Near b w c := Keep.up h hu
theorem Near.refl (b : Nat) (w : World) : Near b w w := Keep.refl _ _
theorem Near.trans {n : Nat} {a b c : World} (h : Near n a b) (k : Near n b c) : Near n a c := Keep.trans h k
theorem Near.at_ {b : Nat} {w a : World} (h : Near b w a) (n : Nat) (hn : n < w.heap.size) (hb : n ≠ b) : (∀ o, a.cell? ⟨n, o, none⟩ = w.cell? ⟨n, o, none⟩) ∧ (∀ o, a.frozen? ⟨n, o, none⟩ = w.frozen? ⟨n, o, none⟩) := Keep.at_ h n hn hb
theorem Near.size {b : Nat} {w a : World} (h : Near b w a) : w.heap.size ≤ a.heap.size := Keep.size h
end Go.Proofs.Ytfknakcjhlonoaa
