/-
  A page's memory: its number, its sync.Once, its signs, its map of codes. No condition.
-/
import Derived.Test.YthdoighlfoinaaaDoorKeep
import Derived.Test.YthdoighlfoinaaaDoorPageM
import Derived.Maps.OwnSet
namespace Go.Proofs.YthdoighlfoinaaaDoor
open Go.RowKit Go.Maps
set_option linter.unusedVariables false
set_option linter.unusedSimpArgs false

theorem ad_ne {b x y : Nat} (h : x ≠ y) : (⟨b, x, none⟩ : Addr) ≠ ⟨b, y, none⟩ := fun e => h (by injection e)
/-- a page's cells -/
structure PCells (w : World) (b : Nat) (k dn st : Int) (S : Nat → Int) (mp : Option Nat) : Prop where
  lt : b < w.heap.size
  num : w.cell? ⟨b, 0, none⟩ = some (.int .i64 k)
  dn : w.cell? ⟨b, 1, none⟩ = some (.int .u32 dn)
  st : w.cell? ⟨b, 2, none⟩ = some (.int .i32 st)
  sg : ∀ i, i < 256 → w.cell? ⟨b, 4 + i, none⟩ = some (.int .i32 (S i))
  mp : w.cell? ⟨b, 260, none⟩ = some (.map mp)
  fz : ∀ i, i < 261 → w.frozen? ⟨b, i, none⟩ = false
section
variable {w w' : World} {b : Nat} {k dn st : Int} {S : Nat → Int} {mp : Option Nat}
theorem PCells.of_block (h : PCells w b k dn st S mp) (hb : w'.heap[b]? = w.heap[b]?) (hs : w.heap.size ≤ w'.heap.size) : PCells w' b k dn st S mp :=
  have hc : ∀ o, w'.cell? ⟨b, o, none⟩ = w.cell? ⟨b, o, none⟩ := fun o => World.cell?_of_block hb
  ⟨by have := h.lt; omega, (hc _).trans h.num, (hc _).trans h.dn, (hc _).trans h.st, fun i hi => (hc _).trans (h.sg i hi), (hc _).trans h.mp, fun i hi => (World.frozen?_of_block hb).trans (h.fz i hi)⟩
theorem PCells.keep (h : PCells w b k dn st S mp) {E : Nat → Prop} (hk : Keep E w w') (he : ¬ E b) : PCells w' b k dn st S mp := h.of_block (hk.block b h.lt he) hk.size
theorem PCells.up (h : PCells w b k dn st S mp) (hk : Up w w') : PCells w' b k dn st S mp := h.of_block (hk.block b h.lt) hk.size
theorem PCells.drew (h : PCells w b k dn st S mp) : PCells w.drew b k dn st S mp := h.of_block rfl (Nat.le_refl _)
theorem PCells.setS (h : PCells w b k dn st S mp) (i : Nat) (hi : i < 256) (v : Int) : PCells (w.setCell ⟨b, 4 + i, none⟩ (.int .i32 v)) b k dn st (fun j => if j = i then v else S j) mp := by
  refine ⟨by simp [World.setCell]; exact h.lt, ?_, ?_, ?_, fun j hj => ?_, ?_, fun j hj => ?_⟩
  · rw [World.cell?_setCell_other (h := ad_ne (show 4 + i ≠ 0 by omega))]; exact h.num
  · rw [World.cell?_setCell_other (h := ad_ne (show 4 + i ≠ 1 by omega))]; exact h.dn
  · rw [World.cell?_setCell_other (h := ad_ne (show 4 + i ≠ 2 by omega))]; exact h.st
  · by_cases e : j = i
    · subst e
      rw [World.cell?_setCell_same (h := h.sg j hj)]; simp
    · rw [World.cell?_setCell_other (h := ad_ne (show 4 + i ≠ 4 + j by omega))]; simp only [if_neg e]; exact h.sg j hj
  · rw [World.cell?_setCell_other (h := ad_ne (show 4 + i ≠ 260 by omega))]; exact h.mp
  · rw [World.frozen?_setCell]; exact h.fz j hj
theorem PCells.setDn (h : PCells w b k dn st S mp) (v : Int) : PCells (w.setCell ⟨b, 1, none⟩ (.int .u32 v)) b k v st S mp := by
  refine ⟨by simp [World.setCell]; exact h.lt, ?_, ?_, ?_, fun j hj => ?_, ?_, fun j hj => ?_⟩
  · rw [World.cell?_setCell_other (h := ad_ne (show 1 ≠ 0 by omega))]; exact h.num
  · rw [World.cell?_setCell_same (h := h.dn)]
  · rw [World.cell?_setCell_other (h := ad_ne (show 1 ≠ 2 by omega))]; exact h.st
  · rw [World.cell?_setCell_other (h := ad_ne (show 1 ≠ 4 + j by omega))]; exact h.sg j hj
  · rw [World.cell?_setCell_other (h := ad_ne (show 1 ≠ 260 by omega))]; exact h.mp
  · rw [World.frozen?_setCell]; exact h.fz j hj
theorem PCells.setSt (h : PCells w b k dn st S mp) (v : Int) : PCells (w.setCell ⟨b, 2, none⟩ (.int .i32 v)) b k dn v S mp := by
  refine ⟨by simp [World.setCell]; exact h.lt, ?_, ?_, ?_, fun j hj => ?_, ?_, fun j hj => ?_⟩
  · rw [World.cell?_setCell_other (h := ad_ne (show 2 ≠ 0 by omega))]; exact h.num
  · rw [World.cell?_setCell_other (h := ad_ne (show 2 ≠ 1 by omega))]; exact h.dn
  · rw [World.cell?_setCell_same (h := h.st)]
  · rw [World.cell?_setCell_other (h := ad_ne (show 2 ≠ 4 + j by omega))]; exact h.sg j hj
  · rw [World.cell?_setCell_other (h := ad_ne (show 2 ≠ 260 by omega))]; exact h.mp
  · rw [World.frozen?_setCell]; exact h.fz j hj
theorem PCells.setMp (h : PCells w b k dn st S mp) (v : Option Nat) : PCells (w.setCell ⟨b, 260, none⟩ (.map v)) b k dn st S v := by
  refine ⟨by simp [World.setCell]; exact h.lt, ?_, ?_, ?_, fun j hj => ?_, ?_, fun j hj => ?_⟩
  · rw [World.cell?_setCell_other (h := ad_ne (show 260 ≠ 0 by omega))]; exact h.num
  · rw [World.cell?_setCell_other (h := ad_ne (show 260 ≠ 1 by omega))]; exact h.dn
  · rw [World.cell?_setCell_other (h := ad_ne (show 260 ≠ 2 by omega))]; exact h.st
  · rw [World.cell?_setCell_other (h := ad_ne (show 260 ≠ 4 + j by omega))]; exact h.sg j hj
  · rw [World.cell?_setCell_same (h := h.mp)]
  · rw [World.frozen?_setCell]; exact h.fz j hj
theorem PCells.ext (h : PCells w b k dn st S mp) {S' : Nat → Int} (he : ∀ i, i < 256 → S i = S' i) : PCells w b k dn st S' mp :=
  ⟨h.lt, h.num, h.dn, h.st, fun i hi => by rw [← he i hi]; exact h.sg i hi, h.mp, h.fz⟩
end
theorem Near.setCell {b : Nat} {w a : World} (h : Near b w a) (x : Nat) (v : Value) : Near b w (a.setCell ⟨b, x, none⟩ v) := Keep.setCell h (p := ⟨b, x, none⟩) (.inl rfl) v
theorem Near.drew {b : Nat} {w a : World} (h : Near b w a) : Near b w a.drew := Keep.drew h
/-- the map of codes that a page holds -/
def MapAt (w : World) (m : Nat) (D : DataW Unit) (n : Nat) : Prop := w.ownsMap Tryd.prog 21 (plainElem Tryd.prog 5) m n D
theorem MapAt.keep {w w' : World} {m n : Nat} {D : DataW Unit} (h : MapAt w m D n) {E : Nat → Prop} (hk : Keep E w w') (he : ¬ E m) : MapAt w' m D n := by
  have hlt := World.ownsMap.lt h
  obtain ⟨es, clock, hb, r⟩ := h
  exact ⟨es, clock, (hk.block m hlt he).trans hb, r⟩
theorem MapAt.up {w w' : World} {m n : Nat} {D : DataW Unit} (h : MapAt w m D n) (hk : Up w w') : MapAt w' m D n := by
  have hlt := World.ownsMap.lt h
  obtain ⟨es, clock, hb, r⟩ := h
  exact ⟨es, clock, (hk.block m hlt).trans hb, r⟩
/-- a page as it lies: not yet built, or built -/
def PAt (w : World) (b : Nat) (k : Int) : Prop := PCells w b k 0 0 (fun _ => 0) none ∨ ∃ m, m ≠ b ∧ PCells w b k 1 0 (signN k) (some m) ∧ MapAt w m (mapD (signN k) 256) 256
theorem PAt.lt {w : World} {b : Nat} {k : Int} (h : PAt w b k) : b < w.heap.size := by
  rcases h with h | ⟨m, _, h, _⟩ <;> exact h.lt
theorem PAt.up {w w' : World} {b : Nat} {k : Int} (h : PAt w b k) (hk : Up w w') : PAt w' b k := by
  rcases h with h | ⟨m, hm, h, h2⟩
  · exact .inl (h.up hk)
  · exact .inr ⟨m, hm, h.up hk, h2.up hk⟩
theorem PAt.drew {w : World} {b : Nat} {k : Int} (h : PAt w b k) : PAt w.drew b k := h.up ((Up.refl w).drew)
theorem MapAt.ne_cell {w : World} {m n b o : Nat} {D : DataW Unit} {v : Value} (h : MapAt w m D n) (hc : w.cell? ⟨b, o, none⟩ = some v) : m ≠ b := by
  rintro rfl
  obtain ⟨es, clock, hb, r⟩ := h
  unfold World.cell? at hc
  simp only [hb] at hc
  simp at hc
theorem PAt.num {w : World} {b : Nat} {k : Int} (h : PAt w b k) : w.cell? ⟨b, 0, none⟩ = some (.int .i64 k) := by
  rcases h with h | ⟨m, _, h, _⟩ <;> exact h.num
/-- another page is worked on -/
theorem PAt.near {w w' : World} {b b' : Nat} {k k' : Int} (h : PAt w b k) (h' : PAt w b' k') (hne : b ≠ b') (hk : Near b' w w') : PAt w' b k := by
  rcases h with h | ⟨m, hm, h, h2⟩
  · exact .inl (h.keep hk hne)
  · exact .inr ⟨m, hm, h.keep hk hne, h2.keep hk (h2.ne_cell h'.num)⟩
end Go.Proofs.YthdoighlfoinaaaDoor
