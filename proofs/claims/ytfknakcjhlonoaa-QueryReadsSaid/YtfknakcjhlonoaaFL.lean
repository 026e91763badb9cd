/-
  Slices of structs that hold slices of bytes: how such a list lies, what keeps it, how it grows by one. No condition.
-/
import Derived.Test.YtfknakcjhlonoaaFlds
import Derived.Test.YtfknakcjhlonoaaIter
import Derived.Test.YtfknakcjhlonoaaSAct4
namespace Go.Proofs.Ytfknakcjhlonoaa
open Go.RowKit
set_option linter.unusedVariables false
set_option linter.unusedSimpArgs false

/-- a field: its identifier, its data -/
structure RF where
  id : Int
  A : Option Addr
  c : Nat
  l : List Int
def RF.cells (x : RF) : List Value := [.int .u8 x.id, .slice x.A x.l.length x.c]
def RF.inn (x : RF) : List (Option Addr × Nat × List Int) := [(x.A, x.c, x.l)]
def RF.bare (x : RF) : Int × List Int := (x.id, x.l)
abbrev Inn := Option Addr × Nat × List Int
structure FL {α : Type} (e : TypeId) (k : Nat) (cells : α → List Value) (inn : α → List Inn) (B : Nat) (w : World) (A : Option Addr) (c : Nat) (xs : List α) : Prop where
  own : w.ownsRow B e k (.slice A xs.length c) xs.length (xs.flatMap cells)
  le : xs.length ≤ c
  mx : c ≤ maxLen
  good : ∀ x ∈ xs, ∀ s ∈ inn x, Sl B w s.1 s.2.2.length s.2.1 s.2.2
theorem Sl.stay2 {B : Nat} {w w' : World} {A : Option Addr} {n c : Nat} {l : List Int} (h : Sl B w A n c l) (hz : w.heap.size ≤ w'.heap.size) (hb : ∀ p, A = some p → w'.heap[p.block]? = w.heap[p.block]?) : Sl B w' A n c l :=
  ⟨⟨h.rd.1, fun hn => by
      obtain ⟨b, off, e, hb', hc⟩ := h.rd.2 hn
      exact ⟨b, off, e, Nat.lt_of_lt_of_le hb' hz, fun j u hu => (World.cell?_of_block (show w'.heap[b]? = w.heap[b]? from hb _ e)).trans (hc j u hu)⟩⟩, h.cap, h.mx, h.at_, h.small, h.bytes, fun p hp => by rw [hb p hp]; exact h.tag p hp⟩
theorem Sl.calm {B C : Nat} {T : Nat → Prop} {w w' : World} {A : Option Addr} {n c : Nat} {l : List Int} (h : Sl B w A n c l) (hc : Calm C T w w') (hT : ∀ k, T k → k < B) : Sl B w' A n c l :=
  h.stay2 hc.size fun p hp => by
    obtain ⟨cur, q, e⟩ := h.tag p hp
    rw [e]
    exact hc.same _ _ e (fun t => by have := hT _ t; have := h.at_ p hp; omega) (.inl rfl)
theorem Sl.grown {B : Nat} {w w' : World} {A : Option Addr} {n c : Nat} {l : List Int} (h : Sl B w A n c l) {e : TypeId} (he : e ≠ 5) {A2 : Option Addr} {n2 c2 k base : Nat} {ys : List Value} (ho : w.ownsRow base e k (.slice A2 n2 c2) n2 ys) (hg : w.grownBy w' (Value.slice A2 n2 c2).ownBlock) : Sl B w' A n c l :=
  h.stay2 hg.size fun p hp => hg.block _ (h.lt hp) fun e1 => by
    obtain ⟨cur, q, e2⟩ := h.tag p hp
    rcases ho.2 with ⟨e3, _⟩ | ⟨g, cap, cur2, e3, _, e4, _⟩
    · rw [e3] at e1; cases e1
    · rw [e3] at e1
      simp only [Value.ownBlock, Option.some.injEq] at e1
      rw [e1, e4] at e2
      injection e2 with e2
      injection e2 with _ e2 _
      exact he e2
section
variable {α : Type} {e : TypeId} {k : Nat} {cells : α → List Value} {inn : α → List Inn} {B : Nat} {w w' : World} {A : Option Addr} {c : Nat} {xs : List α}
theorem FL.nil : FL e k cells inn B w none 0 [] := ⟨World.ownsRow_nil _ _ _ _, by simp, by simp [maxLen], fun _ h => by cases h⟩
theorem FL.up (h : FL e k cells inn B w A c xs) (hu : Up w w') : FL e k cells inn B w' A c xs := ⟨own_up h.own hu, h.le, h.mx, fun x hx s hs => (h.good x hx s hs).up hu⟩
theorem FL.low {B' : Nat} (h : FL e k cells inn B w A c xs) (hB : B' ≤ B) : FL e k cells inn B' w A c xs := ⟨own_base h.own hB, h.le, h.mx, fun x hx s hs => (h.good x hx s hs).low hB⟩
theorem FL.calm {C : Nat} {T : Nat → Prop} (h : FL e k cells inn B w A c xs) (hc : Calm C T w w') (hT : ∀ j, T j → j < B) : FL e k cells inn B w' A c xs :=
  ⟨hc.own h.own hT, h.le, h.mx, fun x hx s hs => (h.good x hx s hs).calm hc hT⟩
theorem FL.set (h : FL e k cells inn B w A c xs) {b o : Nat} (hb : b < B) (v : Value) : FL e k cells inn B (w.setCell ⟨b, o, none⟩ v) A c xs :=
  ⟨own_far h.own hb v, h.le, h.mx, fun x hx s hs => (h.good x hx s hs).set1 hb o v⟩
theorem FL.push (h : FL e k cells inn B w A c xs) (he : e ≠ 5) {A1 : Option Addr} {c1 : Nat} {x : α} (hx : ∀ s ∈ inn x, Sl B w s.1 s.2.2.length s.2.1 s.2.2) (hg : w.grownBy w' (Value.slice A xs.length c).ownBlock)
    (ho : w'.ownsRow B e k (.slice A1 (xs.length + 1) c1) (xs.length + 1) (xs.flatMap cells ++ cells x)) (hle : xs.length + 1 ≤ c1) (hmx : c1 ≤ maxLen) : FL e k cells inn B w' A1 c1 (xs ++ [x]) := by
  have hl : (xs ++ [x]).length = xs.length + 1 := by simp
  refine ⟨?_, by rw [hl]; exact hle, hmx, fun y hy s hs => ?_⟩
  · rw [hl, List.flatMap_append]
    simpa using ho
  · rcases List.mem_append.1 hy with hy | hy
    · exact (h.good y hy s hs).grown he h.own hg
    · rw [List.mem_singleton.1 hy] at hs
      exact (hx s hs).grown he h.own hg
/-- the box of the list, the boxes of the results -/
def OutI (e : TypeId) (k : Nat) (cells : α → List Value) (inn : α → List Inn) (w : World) (B o : Nat) (rs : List Nat) (ys : List α) (W : World) : Prop :=
  Up w W ∧ B ≤ W.heap.size ∧ (∀ r ∈ rs, (∃ v, W.cell? ⟨r, 0, none⟩ = some v) ∧ W.frozen? ⟨r, 0, none⟩ = false) ∧ ∃ A c, W.cell? ⟨o, 0, none⟩ = some (.slice A ys.length c) ∧ W.frozen? ⟨o, 0, none⟩ = false ∧ FL e k cells inn B W A c ys
theorem OutI.up {o : Nat} {rs : List Nat} {W W' : World} (h : OutI e k cells inn w B o rs xs W) (hu : Up W W') : OutI e k cells inn w B o rs xs W' := by
  obtain ⟨h1, h2, h3, A, c, h4, h5, h6⟩ := h
  refine ⟨h1.trans hu, Nat.le_trans h2 hu.size, fun r hr => ?_, A, c, ((hu.at_ _ (cell_lt h4)).1 0).trans h4, ((hu.at_ _ (cell_lt h4)).2 0).trans h5, h6.up hu⟩
  obtain ⟨⟨v, hv⟩, hf⟩ := h3 r hr
  exact ⟨⟨v, ((hu.at_ _ (cell_lt hv)).1 0).trans hv⟩, ((hu.at_ _ (cell_lt hv)).2 0).trans hf⟩
theorem OutI.calm {o C : Nat} {T : Nat → Prop} {rs : List Nat} {W W' : World} (h : OutI e k cells inn w B o rs xs W) (hc : Calm C T W W') (hw : w.heap.size ≤ C) (hT : ∀ j, T j → w.heap.size ≤ j ∧ j < B ∧ j ≠ o ∧ j ∉ rs) : OutI e k cells inn w B o rs xs W' := by
  obtain ⟨h1, h2, h3, A, c, h4, h5, h6⟩ := h
  refine ⟨hc.up h1 hw (fun j hj => (hT j hj).1), Nat.le_trans h2 hc.size, fun r hr => ?_, A, c, hc.cell h4 (fun t => (hT _ t).2.2.1 rfl), (hc.frozen h4 (fun t => (hT _ t).2.2.1 rfl)).trans h5, h6.calm hc (fun j hj => (hT j hj).2.1)⟩
  obtain ⟨⟨v, hv⟩, hf⟩ := h3 r hr
  exact ⟨⟨v, hc.cell hv (fun t => (hT _ t).2.2.2 hr)⟩, (hc.frozen hv (fun t => (hT _ t).2.2.2 hr)).trans hf⟩
end
end Go.Proofs.Ytfknakcjhlonoaa
