/-
  What the walks of the structured fields' iterator share (the seat of law 22 has no table of commands). No condition.
-/
import Derived.Test.YtfknakcjhlonoaaClone
import Derived.Deep.RegionWith
namespace Go.Proofs.Ytfknakcjhlonoaa
open Go.RowKit
set_option linter.unusedVariables false
set_option linter.unusedSimpArgs false

theorem Sl.norm {B : Nat} {w : World} {A : Option Addr} {n c : Nat} {l : List Int} (h : Sl B w A n c l) : Sl B w A l.length c l := by rw [h.len]; exact h
theorem Sl.set1 {B : Nat} {w : World} {A : Option Addr} {n c : Nat} {l : List Int} (h : Sl B w A n c l) {b : Nat} (hb : b < B) (o : Nat) (v : Value) : Sl B (w.setCell ⟨b, o, none⟩ v) A n c l :=
  h.keep (E := fun k => k = b) (Keep.setCell (E := fun k => k = b) (Keep.refl _ w) (p := ⟨b, o, none⟩) (.inl rfl) v) (fun k hk => by omega)
end Go.Proofs.Ytfknakcjhlonoaa
