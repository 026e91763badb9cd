/-
  The law's talk: two machines and the words under way; an end hears the eldest word to it. Conditions: where it lies.
-/
import Derived.Test.YtmnepolfiipfcaaRestL
import Derived.Test.YtmnepolfiipfcaaQue
import Derived.Test.YtmnepolfiipfcaaMixT
import Derived.Deep.RegionLaw
namespace Go.Proofs.Ytmnepolfiipfcaa
open Go.RowKit
set_option linter.unusedVariables false
set_option linter.unusedSimpArgs false

/-- a talk as it lies -/
structure TAt (w : World) (B q : Nat) (b : Nat → Nat) (A : Nat → Option Addr) (n c : Nat → Nat) (Y : Nat → List (Int × Int)) (S : Nat → Nat → Nat → Int) (G : Nat → Nat → Nat → Bool) (t : Nat) : Prop where
  m0 : w.cell? ⟨q, 0, none⟩ = some (.pointer (some ⟨b 0, 0, none⟩))
  m1 : w.cell? ⟨q, 1, none⟩ = some (.pointer (some ⟨b 1, 0, none⟩))
  y0 : w.cell? ⟨q, 2, none⟩ = some (.slice (A 0) (n 0) (c 0)) ∧ w.frozen? ⟨q, 2, none⟩ = false
  y1 : w.cell? ⟨q, 3, none⟩ = some (.slice (A 1) (n 1) (c 1)) ∧ w.frozen? ⟨q, 3, none⟩ = false
  tt : w.cell? ⟨q, 4, none⟩ = some (.int .i64 (t : Int)) ∧ w.frozen? ⟨q, 4, none⟩ = false
  at0 : MAt w (b 0) (S 0) (G 0)
  at1 : MAt w (b 1) (S 1) (G 1)
  q0 : Que B w (A 0) (n 0) (c 0) (Y 0)
  q1 : Que B w (A 1) (n 1) (c 1) (Y 1)
  ne : b 0 ≠ b 1 ∧ q ≠ b 0 ∧ q ≠ b 1 ∧ q < B ∧ b 0 < B ∧ b 1 < B ∧ B ≤ w.heap.size
  nq : ∀ p p', A 0 = some p → A 1 = some p' → p.block ≠ p'.block
/-- what a talk may write -/
def TW (B q : Nat) (b : Nat → Nat) (k : Nat) : Prop := k = q ∨ k = b 0 ∨ k = b 1 ∨ B ≤ k
theorem MAt.keepE {w w' : World} {b : Nat} {S : Nat → Nat → Int} {G : Nat → Nat → Bool} {E : Nat → Prop} (h : MAt w b S G) (hk : Keep E w w') (hb : b < w.heap.size) (he : ¬ E b) : MAt w' b S G := by
  obtain ⟨kc, kf⟩ := hk.at_ b hb he
  intro i o hi ho
  obtain ⟨⟨h1, h2⟩, h3, h4⟩ := h i o hi ho
  exact ⟨⟨(kc _).trans h1, (kf _).trans h2⟩, (kc _).trans h3, (kf _).trans h4⟩
theorem w3_facts {w : World} {q o2 : Nat} {s old : Value} {cs : Array Value} {t : TypeId} (h : w.cell? ⟨q, o2, none⟩ = some old) :
    (((w.setCell ⟨q, o2, none⟩ s).alloc (.cells cs t)).drew).cell? ⟨q, o2, none⟩ = some s ∧ (∀ j, j ≠ o2 → (((w.setCell ⟨q, o2, none⟩ s).alloc (.cells cs t)).drew).cell? ⟨q, j, none⟩ = w.cell? ⟨q, j, none⟩) ∧
    (∀ j, (((w.setCell ⟨q, o2, none⟩ s).alloc (.cells cs t)).drew).frozen? ⟨q, j, none⟩ = w.frozen? ⟨q, j, none⟩) ∧ Keep (fun k => k = q) w (((w.setCell ⟨q, o2, none⟩ s).alloc (.cells cs t)).drew) ∧
    (((w.setCell ⟨q, o2, none⟩ s).alloc (.cells cs t)).drew).heap.size = w.heap.size + 1 ∧ ∀ j, (((w.setCell ⟨q, o2, none⟩ s).alloc (.cells cs t)).drew).cell? ⟨w.heap.size, j, none⟩ = cs[j]? := by
  have zq : q < w.heap.size := cell_lt h
  have hz : (w.setCell ⟨q, o2, none⟩ s).heap.size = w.heap.size := by simp [World.setCell]
  have ha := ((Up.refl (w.setCell ⟨q, o2, none⟩ s)).alloc (.cells cs t)).at_ q (by omega)
  refine ⟨(ha.1 o2).trans (World.cell?_setCell_same (h := h) ..), fun j hj => (ha.1 j).trans ?_, fun j => (ha.2 j).trans ?_, (((Keep.refl (fun k => k = q) w).setCell (p := ⟨q, o2, none⟩) (.inl rfl) s).alloc _).drew, by simp [World.setCell], fun j => ?_⟩
  · exact World.cell?_setCell_other (h := fun e => by injection e with _ e; omega) ..
  · rw [World.frozen?_setCell]
  · have := World.cell?_alloc_new (w.setCell ⟨q, o2, none⟩ s) cs t j
    rw [hz] at this
    exact this
theorem set_q {w : World} {q o2 : Nat} {s old : Value} (h : w.cell? ⟨q, o2, none⟩ = some old) : (w.setCell ⟨q, o2, none⟩ s).cell? ⟨q, o2, none⟩ = some s ∧ (∀ j, j ≠ o2 → (w.setCell ⟨q, o2, none⟩ s).cell? ⟨q, j, none⟩ = w.cell? ⟨q, j, none⟩) ∧ (∀ j, (w.setCell ⟨q, o2, none⟩ s).frozen? ⟨q, j, none⟩ = w.frozen? ⟨q, j, none⟩) ∧ Keep (fun k => k = q) w (w.setCell ⟨q, o2, none⟩ s) :=
  ⟨World.cell?_setCell_same (h := h) .., fun j hj => World.cell?_setCell_other (h := fun e => by injection e with _ e; omega) .., fun j => by rw [World.frozen?_setCell], (Keep.refl (fun k => k = q) w).setCell (p := ⟨q, o2, none⟩) (.inl rfl) s⟩
set_option maxRecDepth 100000 in
set_option maxHeartbeats 6400000 in
theorem hear_none0 {B q : Nat} {b : Nat → Nat} {A : Nat → Option Addr} {n c : Nat → Nat} {Y : Nat → List (Int × Int)} {S : Nat → Nat → Nat → Int} {G : Nat → Nat → Nat → Bool} {t : Nat} {w : World} (h : TAt w B q b A n c Y S G t) (hY : Y 0 = []) :
    Calls Try.prog 17 #[.pointer (some ⟨q, 0, none⟩), .int .i64 0] w fun e w' => e = .returned (.bool false) ∧ w = w' := by
  have hn : n 0 = 0 := by have := h.q0.1; rw [hY] at this; exact this.symm
  have hy := h.y0.1
  rw [hn] at hy
  have zq := cell_lt hy
  clear h hY hn
  go_enter Try.func17, Try.ntmps17
  go_wp2
  go_ret
  exact ⟨rfl, rfl⟩
set_option maxRecDepth 100000 in
set_option maxHeartbeats 6400000 in
theorem hear_none1 {B q : Nat} {b : Nat → Nat} {A : Nat → Option Addr} {n c : Nat → Nat} {Y : Nat → List (Int × Int)} {S : Nat → Nat → Nat → Int} {G : Nat → Nat → Nat → Bool} {t : Nat} {w : World} (h : TAt w B q b A n c Y S G t) (hY : Y 1 = []) :
    Calls Try.prog 17 #[.pointer (some ⟨q, 0, none⟩), .int .i64 1] w fun e w' => e = .returned (.bool false) ∧ w = w' := by
  have hn : n 1 = 0 := by have := h.q1.1; rw [hY] at this; exact this.symm
  have hy := h.y1.1
  rw [hn] at hy
  have zq := cell_lt hy
  clear h hY hn
  go_enter Try.func17, Try.ntmps17
  go_wp2
  go_ret
  exact ⟨rfl, rfl⟩
end Go.Proofs.Ytmnepolfiipfcaa
