/-
  Slices of bytes that a call makes by appends. No condition.
  A box that holds the bytes that have come. No condition.
  An append of a byte that lies anywhere to a box of bytes, in a round. No condition.
  The document's Text. No condition.
  field's Text. No condition.
-/
import Derived.Test.YtjokcfenncogkaaListI
import Derived.Test.YtjokcfenncogkaaBytes
import Derived.Test.YtjokcfenncogkaaApp
import Derived.Test.YtjokcfenncogkaaCollN
import Derived.Test.YtjokcfenncogkaaMixIn
import Derived.Shelf.Abstract
import Derived.Test.YtjokcfenncogkaaRf13c
import Derived.Test.YtjokcfenncogkaaLen13
namespace Go.Proofs.Ytjokcfenncogkaa
open Go.RowKit
set_option linter.unusedVariables false
set_option linter.unusedSimpArgs false

theorem bs_snoc13 (l : List Int) (y : Int) : bs (l ++ [y]) = bs l ++ [.int .u8 y] := by simp [bs]
/-- a slice of bytes that is the call's own -/
structure OwnB (B : Nat) (W : World) (A : Option Addr) (n c : Nat) (l : List Int) : Prop where
  own : W.ownsRow B 5 1 (.slice A n c) n (bs l)
  len : l.length = n
  le : n ≤ c
  mx : c ≤ maxLen
theorem OwnB.nil (B : Nat) (W : World) : OwnB B W none 0 0 [] := ⟨⟨rfl, .inl ⟨rfl, rfl⟩⟩, rfl, Nat.le_refl _, by simp [maxLen]⟩
theorem OwnB.up {B : Nat} {W W' : World} {A : Option Addr} {n c : Nat} {l : List Int} (h : OwnB B W A n c l) (hu : Up W W') : OwnB B W' A n c l := ⟨own_up h.own hu, h.len, h.le, h.mx⟩
theorem OwnB.reads {B : Nat} {W : World} {A : Option Addr} {n c : Nat} {l : List Int} (h : OwnB B W A n c l) : Reads W W.heap.size 1 A n (bs l) := Reads.of_own h.own
theorem OwnB.low {B B' : Nat} {W : World} {A : Option Addr} {n c : Nat} {l : List Int} (h : OwnB B W A n c l) (hB : B' ≤ B) : OwnB B' W A n c l := ⟨own_base h.own hB, h.len, h.le, h.mx⟩
theorem OwnB.at_ {B : Nat} {W : World} {A : Option Addr} {n c : Nat} {l : List Int} (h : OwnB B W A n c l) : ∀ p, A = some p → B ≤ p.block ∧ p.block < W.heap.size := by
  intro p hp
  subst hp
  exact own_bd h.own p.block rfl
theorem OwnB.far {B : Nat} {W : World} {A : Option Addr} {n c : Nat} {l : List Int} (h : OwnB B W A n c l) {p : Addr} (hp : p.block < B) (u : Value) : OwnB B (W.setCell p u) A n c l := ⟨own_far h.own hp u, h.len, h.le, h.mx⟩
theorem OwnB.held {B : Nat} {W W' : World} {A : Option Addr} {n c : Nat} {l : List Int} {E : Nat → Prop} (h : OwnB B W A n c l) (hk : Keep E W W') (he : ∀ p, A = some p → ¬ E p.block) : OwnB B W' A n c l := by
  refine ⟨⟨h.own.1, ?_⟩, h.len, h.le, h.mx⟩
  rcases h.own.2 with h0 | ⟨g, cap, cur, e1, e2, e3, e4⟩
  · exact .inl h0
  · injection e1 with e1 e1' e1''
    refine .inr ⟨g, cap, cur, by rw [e1, e1''], e2, ?_, e4⟩
    exact (hk.block g (Array.getElem?_eq_some_iff.1 e3).1 (he _ e1)).trans e3
theorem OwnB.cells {B : Nat} {W : World} {A : Option Addr} {n c : Nat} {l : List Int} (h : OwnB B W A n c l) : ∀ p, A = some p → ∃ o : Obj, W.heap[p.block]? = some o ∧ o.isCells = true := by
  intro p hp
  subst hp
  exact (own_cells h.own p.block rfl).2

section
variable {P : Program}
theorem run_pushB {W : World} (i0 : TypeInfo) (hi : P.info? 5 = some i0) (hz0 : i0.zero = some (.int .u8 0)) (hz1 : i0.size = 1) (hz2 : i0.bytes = 1) (hP : P.underlying 33 = some (.slice 5)) (ty : TypeId)
    (y : Int) (B : Nat) (A : Option Addr) (n c : Nat) (l : List Int) (hown : OwnB B W A n c l) (hn : n ≤ 65535) (hB : B ≤ W.heap.size) :
    ∃ A' c' w', (Builtin.append_ #[33, 33] ty #[.slice A n c, .slice (some ⟨W.heap.size, 0, none⟩) 1 1]).run P (W.alloc (.cells #[.int .u8 y] 5)) = .ok (.slice A' (n + 1) c') w' ∧
      OwnB B w' A' (n + 1) c' (l ++ [y]) ∧ (W.alloc (.cells #[.int .u8 y] 5)).grownBy w' (Value.slice A n c).ownBlock ∧ Below B W w' ∧ (∀ p, A' = some p → (∃ p', A = some p' ∧ p.block = p'.block) ∨ W.heap.size < p.block) := by
  have hown' := own_up hown.own ((Up.refl W).alloc (.cells #[.int .u8 y] 5))
  obtain ⟨v', w', hrun, h2, h3, _, h5⟩ := run_append_own_at (P := P) (W.alloc (.cells #[.int .u8 y] 5)) B 33 ty 5 i0 _ 1 1 hP hi hz0 hz1 hz2 rfl (by decide) _ n (bs l) hown' ⟨W.heap.size, 0, none⟩ 1 1 [.int .u8 y] rfl (cell_one_new W _ _) (by simp [Value.oneCell']) (by simp [maxLen]; omega) (by omega) (by simp; omega)
  obtain ⟨A', c', rfl, hle, hmx⟩ := own_form h2
  refine ⟨A', c', w', hrun, ⟨by rw [bs_snoc13]; exact h2, by simp [hown.len], hle, hmx⟩, h3, ?_, ?_⟩
  · refine ((Below.refl B W).alloc hB _).grown h3 (by simp; omega) fun k hk => ?_
    exact (own_bd hown.own k hk).1
  · intro p hp
    subst hp
    rcases h5 with h5 | h5
    · left
      cases A with
      | none => simp [Value.ownBlock] at h5
      | some p' => simp [Value.ownBlock] at h5; exact ⟨p', rfl, h5⟩
    · right
      simp [Value.ownBlock] at h5
      omega
/-- one more -/
theorem wpList_pushB {ops : Array Oper} {rest : List Oper} {o : Oper} {a : Act} {Q : Exit → Act → World → Prop} {w : World} (i0 : TypeInfo) (hi : P.info? 5 = some i0) (hz0 : i0.zero = some (.int .u8 0)) (hz1 : i0.size = 1) (hz2 : i0.bytes = 1) (hP : P.underlying 33 = some (.slice 5))
    (hgd : o.guard = none) (s x : Operand) (ho : o.op = .call { callee := .builtin .append, args := #[s, x], argTypes := #[33, 33] })
    (W : World) (y : Int) (hw : w = W.alloc (.cells #[.int .u8 y] 5)) (g : Nat) (hg : g = W.heap.size) (B : Nat) (A : Option Addr) (n c : Nat) (l : List Int) (hs : a.eval s = .slice A n c) (hx : a.eval x = .slice (some ⟨g, 0, none⟩) 1 1)
    (hown : OwnB B W A n c l) (hn : n ≤ 65535) (hB : B ≤ W.heap.size)
    (h : ∀ A' c' w', OwnB B w' A' (n + 1) c' (l ++ [y]) → w.grownBy w' (Value.slice A n c).ownBlock → Below B W w' → (∀ p, A' = some p → (∃ p', A = some p' ∧ p.block = p'.block) ∨ W.heap.size < p.block) → wpList P ops Q rest (a.put o.dst (.slice A' (n + 1) c')) w') : wpList P ops Q (o :: rest) a w := by
  subst hw; subst hg
  refine wpList_plain hgd fun K hK => ?_
  obtain ⟨A', c', w', hr', h2, h3, h4, h5⟩ := run_pushB (P := P) i0 hi hz0 hz1 hz2 hP o.type y B A n c l hown hn hB
  unfold Oper.wp execOp
  simp only [ho, resolve, invoke, builtin, Sem.run_bind, Sem.run_pure, Result.andThen_ok, List.map_toArray, List.map_cons, List.map_nil, hs, hx, hr']
  exact hK _ _ (h A' c' w' h2 h3 h4 h5)
theorem wpListIn_pushB {lb nn : Nat} {ops : Array Oper} {rest : List Oper} {o : Oper} {a : Act} {Q : Exit → Act → World → Prop} {w : World} (i0 : TypeInfo) (hi : P.info? 5 = some i0) (hz0 : i0.zero = some (.int .u8 0)) (hz1 : i0.size = 1) (hz2 : i0.bytes = 1) (hP : P.underlying 33 = some (.slice 5))
    (hgd : o.guard = none) (s x : Operand) (ho : o.op = .call { callee := .builtin .append, args := #[s, x], argTypes := #[33, 33] })
    (W : World) (y : Int) (hw : w = W.alloc (.cells #[.int .u8 y] 5)) (g : Nat) (hg : g = W.heap.size) (B : Nat) (A : Option Addr) (n c : Nat) (l : List Int) (hs : a.eval s = .slice A n c) (hx : a.eval x = .slice (some ⟨g, 0, none⟩) 1 1)
    (hown : OwnB B W A n c l) (hn : n ≤ 65535) (hB : B ≤ W.heap.size)
    (h : ∀ A' c' w', OwnB B w' A' (n + 1) c' (l ++ [y]) → w.grownBy w' (Value.slice A n c).ownBlock → Below B W w' → (∀ p, A' = some p → (∃ p', A = some p' ∧ p.block = p'.block) ∨ W.heap.size < p.block) → wpListIn (Fence.wide.inRound lb) nn P ops Q rest (a.put o.dst (.slice A' (n + 1) c')) w') :
    wpListIn (Fence.wide.inRound lb) nn P ops Q (o :: rest) a w := by
  subst hw; subst hg
  have hw : Region.wanted o (yielded ops a.tmps) = true := by simp [Region.wanted, hgd]
  unfold wpListIn
  rw [if_pos hw]
  obtain ⟨A', c', w', hr', h2, h3, h4, h5⟩ := run_pushB (P := P) i0 hi hz0 hz1 hz2 hP o.type y B A n c l hown hn hB
  refine oper_in (fun cc => by rw [ho]; simp) ?_
  unfold Oper.wp execOp
  simp only [ho, resolve, invoke, builtin, Sem.run_bind, Sem.run_pure, Result.andThen_ok, List.map_toArray, List.map_cons, List.map_nil, hs, hx, hr']
  exact h A' c' w' h2 h3 h4 h5
theorem run_appB {W : World} (i0 : TypeInfo) (hi : P.info? 5 = some i0) (hz0 : i0.zero = some (.int .u8 0)) (hz1 : i0.size = 1) (hz2 : i0.bytes = 1) (hP : P.underlying 33 = some (.slice 5)) (ty : TypeId)
    (y : Int) (B : Nat) (A Ax : Option Addr) (n c cx : Nat) (l : List Int) (hown : OwnB B W A n c l) (hr : Reads W W.heap.size 1 Ax 1 (bs [y])) (hn : n ≤ 65535) (hB : B ≤ W.heap.size) :
    ∃ A' c' w', (Builtin.append_ #[33, 33] ty #[.slice A n c, .slice Ax 1 cx]).run P W = .ok (.slice A' (n + 1) c') w' ∧
      OwnB B w' A' (n + 1) c' (l ++ [y]) ∧ W.grownBy w' (Value.slice A n c).ownBlock ∧ Below B W w' := by
  obtain ⟨A', c', w', h1, h2, h3, h4, h5, h6⟩ := run_app (P := P) W B 33 ty 5 i0 _ 1 1 hP hi hz0 hz1 hz2 rfl (by decide) A n c (bs l) hown.own W.heap.size Ax 1 cx (bs [y]) hr (by simp [bs, Value.oneCell']) (by simp [maxLen]; omega) (by omega) hB
  exact ⟨A', c', w', h1, ⟨by rw [bs_snoc13]; exact h2, by simp [hown.len], h4, h5⟩, h3, h6⟩
end
end Go.Proofs.Ytjokcfenncogkaa
namespace Go.Proofs.Ytjokcfenncogkaa
open Go.RowKit
set_option linter.unusedVariables false
set_option linter.unusedSimpArgs false

/-- a box that holds the bytes that have come; N are others' blocks -/
structure OutY (T : Nat → Prop) (w : World) (B ob : Nat) (N : Nat → Prop) (pre : List Int) (W : World) : Prop where
  up : Keep T w W
  ex : ∃ A n c, W.cell? ⟨ob, 0, none⟩ = some (.slice A n c) ∧ W.frozen? ⟨ob, 0, none⟩ = false ∧ OwnB B W A n c pre ∧ ∀ p, A = some p → ¬ N p.block
  no : ¬ N ob
  nw : ∀ k, N k → w.heap.size ≤ k ∨ T k
  bw : B ≤ W.heap.size
theorem OutY.own {T : Nat → Prop} {w : World} {B ob : Nat} : Own2 (OutY T w B ob) := by
  rintro N N' s W W' ⟨h1, ⟨A, n, c, h2, h3, h4, h5⟩, h6, h7, h8⟩ hk hn
  have zo := cell_lt h2
  refine ⟨h1.past2 hk h7, ⟨A, n, c, ((hk.at_ ob zo h6).1 0).trans h2, ((hk.at_ ob zo h6).2 0).trans h3, h4.held hk h5, fun p hp h => ?_⟩, fun h => ?_, fun k h => ?_, by have := hk.size; omega⟩
  · rcases hn _ h with h | h
    · exact h5 p hp h
    · have := (h4.at_ p hp).2; omega
  · rcases hn _ h with h | h
    · exact h6 h
    · have : ob < W.heap.size := zo; omega
  · rcases hn _ h with h | h
    · exact h7 k h
    · have := h1.size; left; omega
theorem OutY.fin {T : Nat → Prop} {w : World} {B ob : Nat} {N : Nat → Prop} {pre : List Int} {W : World} (h : OutY T w B ob N pre W) : ∃ A c, W.cell? ⟨ob, 0, none⟩ = some (.slice A pre.length c) ∧ OwnB B W A pre.length c pre := by
  obtain ⟨A, n, c, h2, h3, h4, h5⟩ := h.ex
  have := h4.len
  subst this
  exact ⟨A, c, h2, h4⟩
/-- what a round's append leaves -/
theorem OutY.push {T : Nat → Prop} {v : Value} {w : World} {B ob : Nat} {N : Nat → Prop} {pre : List Int} {x : Int} {W W' : World} {A A2 : Option Addr} {n c2 : Nat} {r : Option Nat} (hi : OutY T w B ob N pre W) (hz : ∀ k, N k → k < W.heap.size) (hA : ∀ p, A = some p → ¬ N p.block)
    (hown : OwnB B W' A2 (n + 1) c2 (pre ++ [x])) (hg : (W.alloc (.cells #[.int .u8 x] 5)).grownBy W' r) (hr' : ∀ k, r = some k → ∃ p, A = some p ∧ p.block = k) (hbl : Below B W W') (hob : ob < B) (hwB : w.heap.size ≤ B)
    (hp : ∀ p, A2 = some p → (∃ p', A = some p' ∧ p.block = p'.block) ∨ W.heap.size < p.block) (hc : W'.cell? ⟨ob, 0, none⟩ = some v) (hf : W'.frozen? ⟨ob, 0, none⟩ = false) (hwo : T ob ∨ w.heap.size ≤ ob) :
    Held N W (W'.setCell ⟨ob, 0, none⟩ (.slice A2 (n + 1) c2)) ∧ OutY T w B ob N (pre ++ [x]) (W'.setCell ⟨ob, 0, none⟩ (.slice A2 (n + 1) c2)) := by
  have hH : Held N W (W'.setCell ⟨ob, 0, none⟩ (.slice A2 (n + 1) c2)) := fun k hk => by
    have hkz := hz k hk
    have h1 : k ≠ ob := fun e => hi.no (e ▸ hk)
    rw [Below.heap_setCell W' ⟨ob, 0, none⟩ _ k h1]
    rw [hg.block k (by simp; omega) (fun e => by
      obtain ⟨p, hp1, hp2⟩ := hr' k e.symm
      exact hA p hp1 (hp2 ▸ hk))]
    exact Below.heap_alloc _ _ _ hkz
  refine ⟨hH, ⟨?_, ⟨A2, n + 1, c2, World.cell?_setCell_same (h := hc) .., by rw [World.frozen?_setCell]; exact hf, hown.far (by exact hob) _, fun p hp' h => ?_⟩, hi.no, hi.nw, by have := hbl.size; have := hi.bw; simp [World.setCell]; omega⟩⟩
  · exact (hi.up.far (hbl.mono hwB)).setCell hwo _
  · rcases hp p hp' with ⟨p', h1, h2⟩ | h1
    · exact hA p' h1 (h2 ▸ h)
    · have := hz _ h; omega

end Go.Proofs.Ytjokcfenncogkaa
namespace Go.Proofs.Ytjokcfenncogkaa
open Go.RowKit Go.Shelf
set_option linter.unusedVariables false
set_option linter.unusedSimpArgs false

section
variable {P : Program}
theorem run_appY {W : World} (i0 : TypeInfo) (hi : P.info? 5 = some i0) (hz0 : i0.zero = some (.int .u8 0)) (hz1 : i0.size = 1) (hz2 : i0.bytes = 1) (hP : P.underlying 33 = some (.slice 5)) (ty : TypeId)
    (y : Int) (B : Nat) (A Ax : Option Addr) (n c cx : Nat) (l : List Int) (hown : OwnB B W A n c l) (hr : Reads W W.heap.size 1 Ax 1 (bs [y])) (hn : n ≤ 65535) (hB : B ≤ W.heap.size) :
    ∃ A' c' w', (Builtin.append_ #[33, 33] ty #[.slice A n c, .slice Ax 1 cx]).run P W = .ok (.slice A' (n + 1) c') w' ∧
      OwnB B w' A' (n + 1) c' (l ++ [y]) ∧ W.grownBy w' (Value.slice A n c).ownBlock ∧ Below B W w' ∧ (∀ p, A' = some p → (∃ p', A = some p' ∧ p.block = p'.block) ∨ W.heap.size ≤ p.block) := by
  obtain ⟨b, off, rfl, hb, hc⟩ := hr.2 (by omega)
  obtain ⟨v', w', hrun, h2, h3, _, h5⟩ := run_append_own_at (P := P) (w := W) B 33 ty 5 i0 _ 1 1 hP hi hz0 hz1 hz2 rfl (by decide) _ n (bs l) hown.own ⟨b, off, none⟩ 1 cx (bs [y]) rfl (fun j u hu => by have h9 := hc j u hu; have e9 : (⟨b, off, none⟩ : Addr).add j = ⟨b, off + j, none⟩ := (by simp [Addr.add]); rw [e9]; exact h9) (by simp [bs, Value.oneCell']) (by simp [maxLen]; omega) (by omega) hB
  obtain ⟨A', c', rfl, hle, hmx⟩ := own_form h2
  refine ⟨A', c', w', hrun, ⟨by rw [bs_snoc13]; exact h2, by simp [hown.len], hle, hmx⟩, h3, ?_, ?_⟩
  · exact (Below.refl B W).grown h3 hB fun k hk => (own_bd hown.own k hk).1
  · intro p hp
    subst hp
    rcases h5 with h5 | h5
    · left
      cases A with
      | none => simp [Value.ownBlock] at h5
      | some p' => simp [Value.ownBlock] at h5; exact ⟨p', rfl, h5⟩
    · right
      simp [Value.ownBlock] at h5
      omega
theorem wpListIn_appY {lb nn : Nat} {ops : Array Oper} {rest : List Oper} {o : Oper} {a : Act} {Q : Exit → Act → World → Prop} {w : World} (i0 : TypeInfo) (hi : P.info? 5 = some i0) (hz0 : i0.zero = some (.int .u8 0)) (hz1 : i0.size = 1) (hz2 : i0.bytes = 1) (hP : P.underlying 33 = some (.slice 5))
    (hgd : o.guard = none) (s x : Operand) (ho : o.op = .call { callee := .builtin .append, args := #[s, x], argTypes := #[33, 33] })
    (y : Int) (B : Nat) (A Ax : Option Addr) (n c cx : Nat) (l : List Int) (hs : a.eval s = .slice A n c) (hx : a.eval x = .slice Ax 1 cx)
    (hown : OwnB B w A n c l) (hr : Reads w w.heap.size 1 Ax 1 (bs [y])) (hn : n ≤ 65535) (hB : B ≤ w.heap.size)
    (h : ∀ A' c' w', OwnB B w' A' (n + 1) c' (l ++ [y]) → w.grownBy w' (Value.slice A n c).ownBlock → Below B w w' → (∀ p, A' = some p → (∃ p', A = some p' ∧ p.block = p'.block) ∨ w.heap.size ≤ p.block) → wpListIn (Fence.wide.inRound lb) nn P ops Q rest (a.put o.dst (.slice A' (n + 1) c')) w') :
    wpListIn (Fence.wide.inRound lb) nn P ops Q (o :: rest) a w := by
  have hw : Region.wanted o (yielded ops a.tmps) = true := by simp [Region.wanted, hgd]
  unfold wpListIn
  rw [if_pos hw]
  obtain ⟨A', c', w', hr', h2, h3, h4, h5⟩ := run_appY (P := P) i0 hi hz0 hz1 hz2 hP o.type y B A Ax n c cx l hown hr hn hB
  refine oper_in (fun cc => by rw [ho]; simp) ?_
  unfold Oper.wp execOp
  simp only [ho, resolve, invoke, builtin, Sem.run_bind, Sem.run_pure, Result.andThen_ok, List.map_toArray, List.map_cons, List.map_nil, hs, hx, hr']
  exact h A' c' w' h2 h3 h4 h5
end
theorem OutY.pushY {T : Nat → Prop} {v : Value} {w : World} {B ob : Nat} {N : Nat → Prop} {pre : List Int} {x : Int} {W W' : World} {A A2 : Option Addr} {n c2 : Nat} {r : Option Nat} (hi : OutY T w B ob N pre W) (hz : ∀ k, N k → k < W.heap.size) (hA : ∀ p, A = some p → ¬ N p.block)
    (hown : OwnB B W' A2 (n + 1) c2 (pre ++ [x])) (hg : W.grownBy W' r) (hr' : ∀ k, r = some k → ∃ p, A = some p ∧ p.block = k) (hbl : Below B W W') (hob : ob < B) (hwB : w.heap.size ≤ B)
    (hp : ∀ p, A2 = some p → (∃ p', A = some p' ∧ p.block = p'.block) ∨ W.heap.size ≤ p.block) (hc : W'.cell? ⟨ob, 0, none⟩ = some v) (hf : W'.frozen? ⟨ob, 0, none⟩ = false) (hwo : T ob ∨ w.heap.size ≤ ob) :
    Held N W (W'.setCell ⟨ob, 0, none⟩ (.slice A2 (n + 1) c2)) ∧ OutY T w B ob N (pre ++ [x]) (W'.setCell ⟨ob, 0, none⟩ (.slice A2 (n + 1) c2)) := by
  have hH : Held N W (W'.setCell ⟨ob, 0, none⟩ (.slice A2 (n + 1) c2)) := fun k hk => by
    have hkz := hz k hk
    have h1 : k ≠ ob := fun e => hi.no (e ▸ hk)
    rw [Below.heap_setCell W' ⟨ob, 0, none⟩ _ k h1]
    exact hg.block k hkz (fun e => by
      obtain ⟨p, hp1, hp2⟩ := hr' k e.symm
      exact hA p hp1 (hp2 ▸ hk))
  refine ⟨hH, ⟨?_, ⟨A2, n + 1, c2, World.cell?_setCell_same (h := hc) .., by rw [World.frozen?_setCell]; exact hf, hown.far (by exact hob) _, fun p hp' h => ?_⟩, hi.no, hi.nw, by have := hbl.size; have := hi.bw; simp [World.setCell]; omega⟩⟩
  · exact (hi.up.far (hbl.mono hwB)).setCell hwo _
  · rcases hp p hp' with ⟨p', h1, h2⟩ | h1
    · exact hA p' h1 (h2 ▸ h)
    · have := hz _ h; omega
end Go.Proofs.Ytjokcfenncogkaa
namespace Go.Proofs.Ytjokcfenncogkaa
open Go.RowKit
set_option linter.unusedVariables false
set_option linter.unusedSimpArgs false

/-- the codes of a field's places -/
def Spc.text (X : Spc) (a : Int) : List Int := (X.places a).map fun n => (X.at_ n).ch
theorem places_mem {X : Spc} (ok : X.Ok) {a x : Int} (h : x ∈ X.places a) : ∃ k : Nat, x = k ∧ k < X.L.length := by
  have hp := Spc.pos ok
  have hl := ok.len
  unfold Spc.places at h
  split at h
  · unfold stepsL at h
    rw [List.mem_map] at h
    obtain ⟨i, _, rfl⟩ := h
    obtain ⟨h1, h2⟩ := ok.wrap (a + 1 + i)
    exact ⟨X.wrap (a + 1 + i), h1, h2⟩
  · cases h
set_option maxRecDepth 100000 in
set_option maxHeartbeats 3200000 in
theorem rtext_is {q h : Nat} {X : Spc} {w : World} (a : Int) (hr : RAt w q h X) (ok : X.Ok) :
    Calls Try.prog 79 #[.pointer (some ⟨q, 0, none⟩), .int .i64 a] w fun e w' => ∃ A c, e = .returned (.slice A (X.text a).length c) ∧ OwnB w.heap.size w' A (X.text a).length c (X.text a) ∧ Up w w' := by
  obtain ⟨i0, hi, hz0, hz1, hz2⟩ := info_parts info_u8
  have HP := Lib.hid (rplaces_is a hr ok)
  have HPN := Lib.hid (places_len13 ok a)
  have HMEM := Lib.hid (fun (j : Nat) (x : Int) (hx : (X.places a)[j]? = some x) => places_mem ok (List.mem_of_getElem? hx))
  have HAT := Lib.hid (fun k (hk : k < X.L.length) => Spc.at_nat ok hk)
  have HCE := Lib.hid (fun k c hk => hr.cells.2.2 k c hk)
  have HTX := Lib.hid (show X.text a = (X.places a).map (fun n => (X.at_ n).ch) from rfl)
  obtain ⟨cap, q1, q2, k4⟩ := hr.h4
  have zp := hr.lt
  have zg := hr.cells.2.1
  have hsm := ok.small
  have hcp : (cap : Int) ≤ 9223372036854775807 := by simp [maxLen] at q2; omega
  obtain ⟨m, hm⟩ : ∃ m, X.L.length = m := ⟨_, rfl⟩
  obtain ⟨P, hP⟩ : ∃ P, X.places a = P := ⟨_, rfl⟩
  rw [hm] at q1 k4 hsm HPN HMEM HAT
  rw [hP] at HP HPN HMEM HTX
  obtain ⟨nl, hnl⟩ : ∃ nl, P.length = nl := ⟨_, rfl⟩
  have HNL := Lib.hid hnl
  have hpn := HPN.out
  rw [hnl] at hpn
  clear hm hP hr ok q2 hnl HPN
  go_enter Try.func79, Try.ntmps79
  go_wp2_with fail
  refine HP.out.mono ?_
  rintro e w1 ⟨A0, c0, rfl, hown0, hu1⟩
  have z1 := hu1.size
  have HU1 := Lib.hid hu1
  have HRD := Lib.hid hown0.reads
  have hc0 : (c0 : Int) ≤ 9223372036854775807 := by have := hown0.mx; simp [maxLen] at this; omega
  have hle0 := hown0.le
  have k5 := ((hu1.at_ q zp).1 4).trans k4
  have zp1 : q < w1.heap.size := by omega
  have zg1 : h < w1.heap.size := by omega
  rw [HNL.out] at HRD hle0 ⊢
  clear hown0 hu1 k4
  go_wp2_with fail
  go_loopw [5, 12] (fun v i wr => ∃ (j : Nat) (A : Option Addr) (c : Nat), j ≤ nl ∧ v = .slice A j c ∧ i = .int .i64 (j : Int) ∧ OwnB w1.heap.size wr A j c ((P.take j).map (fun n => (X.at_ n).ch)) ∧ Up w1 wr) (fun _ i _ => nl - (intOf i).toNat)
  case atStart => exact ⟨0, none, 0, by omega, rfl, rfl, OwnB.nil _ _, Up.refl _⟩
  case round =>
    obtain ⟨j, A, c, hj, rfl, rfl, hown, huj⟩ := hrel
    have HUJ := Lib.hid huj
    have HOW := Lib.hid hown
    have zj := huj.size
    by_cases hlt : j < nl
    · obtain ⟨x, hx⟩ : ∃ x, P[j]? = some x := ⟨_, List.getElem?_eq_getElem (by have := HNL.out; omega)⟩
      obtain ⟨k, rfl, hk⟩ := HMEM.out j x hx
      have hrd := HRD.out.below huj
      obtain ⟨b, off, rfl, hb⟩ := hrd.form (by omega)
      obtain ⟨hbl, u, hu, hcl⟩ := hrd.at_ (j := j) (by omega)
      have hux : u = .int .i64 (k : Int) := by
        unfold ns at hu
        rw [List.getElem?_map, hx] at hu
        injection hu with hu
        exact hu.symm
      subst hux
      have zb : b < wr.heap.size := by omega
      obtain ⟨d, hd⟩ : ∃ d, X.at_ (k : Int) = d := ⟨_, rfl⟩
      have hat := HAT.out k hk
      rw [hd] at hat
      have x0 := ((huj.at_ h zg1).1 _).trans (((HU1.out.at_ h zg).1 _).trans (HCE.out k d hat).h0)
      have k6 := ((huj.at_ q zp1).1 4).trans k5
      have zq : q < wr.heap.size := by omega
      have zh : h < wr.heap.size := by omega
      have HSJ := Lib.hid (show (P.take (j + 1)).map (fun n => (X.at_ n).ch) = (P.take j).map (fun n => (X.at_ n).ch) ++ [d.ch] by
        obtain ⟨h1, h2⟩ := List.getElem?_eq_some_iff.1 hx
        rw [List.take_succ_eq_append_getElem h1, h2, List.map_append]
        simp [hd])
      have hjm : (j : Int) < (nl : Int) := by omega
      have hkm : (k : Int) < (m : Int) := by omega
      generalize d.ch = ch at *
      clear hx hk hu hrd hbl hown huj hat hd hb
      go_wp2_with (at_builtin; refine wpList_pushB i0 hi hz0 hz1 hz2 Try.underlying33 rfl (.tmp 16) (.tmp 25) rfl _ ch rfl _ (by simp) w1.heap.size A j c ((P.take j).map (fun n => (X.at_ n).ch)) rfl rfl (HOW.out.up (by (repeat (first | with_reducible exact Up.refl _ | with_reducible refine Up.alloc ?_ _ | with_reducible refine Up.drew ?_ | with_reducible refine Up.drewN ?_ _ | with_reducible refine Up.setCell ?_ (by (try simp) <;> omega) _ | with_reducible assumption | with_reducible refine Up.trans ?_ (by assumption))))) (by omega) (by (try simp) <;> omega) ?_; intro A2 c2 w5 hown2 hg2 hbl2 _; have HO2 := Lib.hid hown2; have HB2 := Lib.hid hbl2; clear hown2 hg2 hbl2)
      go_roundw
      case rel => exact ⟨j + 1, A2, c2, by omega, rfl, by go_num, by rw [HSJ.out]; exact HO2.out, Up.past HUJ.out HB2.out⟩
      case measure => simp [intOf]; omega
    · obtain rfl : j = nl := by omega
      have HA := Lib.hid (show (P.take j).map (fun n => (X.at_ n).ch) = X.text a by rw [HTX.out, List.take_of_length_le (by have := HNL.out; omega)])
      rw [HA.out] at HOW
      clear hown
      go_wp2_with fail
      go_ret
      have hn := HOW.out.len
      subst hn
      exact ⟨A, c, rfl, HOW.out.low (by omega), HU1.out.trans HUJ.out⟩
end Go.Proofs.Ytjokcfenncogkaa
namespace Go.Proofs.Ytjokcfenncogkaa
open Go.RowKit Go.Shelf
set_option linter.unusedVariables false
set_option linter.unusedSimpArgs false
attribute [local go_sem] Oper.semAt_some

set_option maxRecDepth 100000 in
set_option maxHeartbeats 6400000 in
theorem ftext_is {p g : Nat} {X : Spc} {w : World} (a : Int) (hs : SAt w p g X) (ok : X.Ok) :
    Calls Try.prog 78 #[.pointer (some ⟨p, 0, none⟩), .int .i64 a] w fun e w' => ∃ A c, e = .returned (.slice A (X.text a).length c) ∧ OwnB w.heap.size w' A (X.text a).length c (X.text a) ∧ Up w w' := by
  obtain ⟨i0, hi, hz0, hz1, hz2⟩ := info_parts info_u8
  have HS := Lib.hid hs
  have HO := Lib.hid ok
  have hpl := places_len ok a
  have hsm := ok.small
  have fC := fldC0
  have HTX := Lib.hid (show X.text a = (X.places a).map (fun n => (X.at_ n).ch) from rfl)
  clear hs ok
  refine (callsIn_wide (n := 9)).1 ?_
  refine callsIn_of_wp_marks Try.func78 rfl trivial ?_ rfl
  simp only [Try.ntmps78, List.size_toArray, List.length_cons, List.length_nil, Nat.reduceAdd, Nat.reduceSub, Array.replicate_succ, Array.replicate_zero, List.push_toArray, List.append_toArray, List.nil_append, List.cons_append]
  refine wpIn_wide.2 ?_
  go_wp2_with fail
  refine (places_val _ _ _).mono ?_
  rintro e w3 ⟨b, b2, rfl, hb, hb2, hz, hcb, hcb2, hfb2, hu3⟩
  simp at hb hb2 hz
  obtain ⟨k1, f1⟩ := hu3.at_ w.heap.size (by (try simp) <;> omega)
  obtain ⟨k2, f2⟩ := hu3.at_ (w.heap.size + 1) (by (try simp) <;> omega)
  have uw : Up w w3 := by (repeat (first | with_reducible exact Up.refl _ | with_reducible refine Up.alloc ?_ _ | with_reducible refine Up.drew ?_ | with_reducible refine Up.drewN ?_ _ | with_reducible refine Up.setCell ?_ (by (try simp) <;> omega) _ | with_reducible assumption | with_reducible refine Up.trans ?_ (by assumption)))
  have c1 : w3.cell? ⟨w.heap.size, 0, none⟩ = some (.pointer (some ⟨p, 0, none⟩)) := (k1 0).trans (by simp [go_sem])
  have c2 : w3.cell? ⟨w.heap.size + 1, 0, none⟩ = some (.slice none 0 0) := (k2 0).trans (by simp [go_sem])
  have g2 : w3.frozen? ⟨w.heap.size + 1, 0, none⟩ = false := (f2 0).trans (by simp [go_sem])
  have HU := Lib.hid uw
  have HB := Lib.hid (show b = w.heap.size + 1 + 1 ∧ b2 = w.heap.size + 1 + 1 + 1 ∧ w3.heap.size = w.heap.size + 1 + 1 + 2 from ⟨hb, hb2, hz⟩)
  have HC := Lib.hid (show _ ∧ _ ∧ _ from ⟨c1, c2, g2⟩)
  clear k1 f1 k2 f2 hu3 uw hb hb2 hz c1 c2 g2
  go_wp2_with fail
  obtain ⟨hb, hb2, hz⟩ := HB.out
  obtain ⟨c1, c2, g2⟩ := HC.out
  refine wpIn_wide.1 (range_n (n := 9) (gf := 130) (lb := #[.pointer (some ⟨b, 0, none⟩), .pointer (some ⟨b2, 0, none⟩)]) rfl enters_places (places_it HO.out (p := p) (b := b) (b2 := b2) (a := a)) (fun _ => rfl)
    (fun k => k = b2) (fun k hk => by omega) (fun k hk => hk) (fun W hu => ⟨((hu.at_ b2 (by omega)).1 0).trans hcb2, ((hu.at_ b2 (by omega)).2 0).trans hfb2⟩)
    (fun N pre W => InP w p b N W ∧ InP w p w.heap.size N W ∧ OutY (fun _ => False) w w3.heap.size (w.heap.size + 1) N (pre.map (fun n => (X.at_ n).ch)) W) (fun _ _ _ _ => False)
    (fun N N' s A A' h hk hn => ⟨InP.own (β := Unit) N N' () A A' h.1 hk hn, InP.own (β := Unit) N N' () A A' h.2.1 hk hn, OutY.own N N' _ A A' h.2.2 hk hn⟩) (fun _ _ _ _ _ _ h _ _ => h) (fun N pre W h => h.1.see HS.out HO.out)
    ⟨⟨HU.out, hcb, by omega, by omega⟩, ⟨HU.out, c1, by omega, by omega⟩, ⟨Keep.of_up HU.out, ⟨none, 0, 0, c2, g2, OwnB.nil _ _, fun p hp => by cases hp⟩, by omega, fun k h => .inl (by omega), Nat.le_refl _⟩⟩
    (fun pre x a' N W' => pre ++ [x] <+: X.places a ∧ a' = { tmps := #[.pointer (some ⟨p, 0, none⟩), .int .i64 a, .pointer (some ⟨w.heap.size, 0, none⟩), undef, .slice none 0 0, .pointer (some ⟨w.heap.size + 1, 0, none⟩), .int .i64 x, .pointer (some ⟨p, 0, none⟩), .int .i64 a, .func (.func 130) #[] #[.pointer (some ⟨b, 0, none⟩), .pointer (some ⟨b2, 0, none⟩)], .int .i64 x, undef, undef, undef, undef, undef, undef, undef, undef], defers := [] })
    (fun _ _ _ _ _ _ _ _ h _ _ => h) ?assign ?body ?done (fun _ _ _ _ _ _ _ _ _ h _ => h.elim))
  case assign =>
    rintro l N pre x W K hz hI hG hK
    have HI := Lib.hid hI
    have HG := Lib.hid hG
    clear hI hG
    gi_wp2
    exact hK _ _ (Held.refl _ _) HI.out ⟨HG.out, by simp⟩
  case body =>
    rintro l N pre x a' W hl hr hz ⟨hI1, hI2, hI⟩ ⟨hG, rfl⟩
    obtain ⟨k, rfl, hk⟩ := places_mem HO.out (hG.subset (show x ∈ pre ++ [x] by simp))
    obtain ⟨d, hd⟩ : ∃ d, X.at_ (k : Int) = d := ⟨_, rfl⟩
    have HAT := Lib.hid (fun W' (hu : Up W W') => sat_op (k : Int) (HS.out.up (hI1.up.trans hu)) HO.out hd)
    have HI1 := Lib.hid hI1
    have HI2 := Lib.hid hI2
    have HI := Lib.hid hI
    have HD := Lib.hid (show d.ch = (X.at_ (k : Int)).ch by rw [hd])
    have hlen : pre.length + 1 ≤ (X.places a).length := by have := hG.length_le; simpa using this
    obtain ⟨A, n, c0, q1, q2, q3, q5⟩ := hI.ex
    have hn := q3.len
    rw [List.length_map] at hn
    subst hn
    have zo := cell_lt q1
    have t1 := hI2.hb
    have zt := cell_lt t1
    simp only at zo zt
    have hbw := hI.bw
    have H3 := Lib.hid q3
    have HZ := Lib.hid hz
    have H5 := Lib.hid q5
    have HNE := Lib.hid (show ∀ k, k < w3.heap.size → (Value.slice A pre.length c0).ownBlock ≠ some k from fun k hk e => by have := own_bd q3.own _ e; omega)
    clear q3 hz q5 hI hI1 hI2 hG hr hl hd hk
    generalize d.ch = dch at *
    refine wpIn_block ?_
    refine wpIn_region_mixT 6 (NS := [(16, RSl [dch])]) [16] rfl (by kernel_rfl) (by kernel_rfl) (by simp) (by intro p hp; simp only [List.mem_cons, List.mem_nil_iff, or_false] at hp; rcases hp with rfl; all_goals (first | exact rsl_up _ | exact rptr_up _ | exact rms_up _ | exact spanAt_up _ _ _ _ _ | exact rcs_up _ | exact rfb_up _ _)) ?_
    simp only [List.take_succ_cons, List.take_zero, List.drop_succ_cons, List.drop_zero]
    repeat (first
      | (refine mix_skip rfl rfl ?_; simp only [Act.put, List.setIfInBounds_toArray, List.set_cons_succ, List.set_cons_zero])
      | (refine mix_q rfl rfl rfl (by kernel_rfl) rfl rfl rfl ?_
         apply Exists.intro
         refine ⟨fun Wm => ?_, ?_⟩
         · simp only [fin]
           repeat (rintro (vm : Value) hvm; first | (obtain ⟨gm, om, rfl, hgm, hcm⟩ := hvm) | (obtain ⟨gm, om, cm, rfl, h2m, hxm, hgm, hcm, hdm⟩ := rsl_two hvm) | (obtain ⟨Am, nm, cm, rfl, hnm, hlm, hmm, hrm⟩ := hvm; (try simp only [List.length_cons, List.length_nil, Nat.zero_add, Nat.reduceAdd] at hnm); subst hnm) | (have hvs := hvm; obtain ⟨bm1, bm2, bm3, rfl, hbl, hbz, hbc⟩ := hvm))
           intro K hK
           go_wp2_with ((go_at_call 27; (with_reducible refine (HAT.out _ (up_upOf _ _)).mono ?_); rintro e w' ⟨rfl, hux⟩))
           refine hK _ _ ?_ ?_ ?_
           · (repeat (first | with_reducible exact Up.refl _ | with_reducible refine Up.alloc ?_ _ | with_reducible refine Up.drew ?_ | with_reducible refine Up.drewN ?_ _ | with_reducible refine Up.setCell ?_ (by (try simp) <;> omega) _ | with_reducible assumption | with_reducible refine Up.trans ?_ (by assumption)))
           · rfl
           · exact tmps_at rfl
         simp only [Act.put, List.setIfInBounds_toArray, List.set_cons_succ, List.set_cons_zero])
      | (refine mix_n rfl rfl rfl (by kernel_rfl) rfl rfl rfl ?_ ?_
         · intro Wm
           simp only [fin]
           repeat (rintro (vm : Value) hvm; first | (obtain ⟨gm, om, rfl, hgm, hcm⟩ := hvm) | (obtain ⟨gm, om, cm, rfl, h2m, hxm, hgm, hcm, hdm⟩ := rsl_two hvm) | (obtain ⟨Am, nm, cm, rfl, hnm, hlm, hmm, hrm⟩ := hvm; (try simp only [List.length_cons, List.length_nil, Nat.zero_add, Nat.reduceAdd] at hnm); subst hnm) | (have hvs := hvm; obtain ⟨bm1, bm2, bm3, rfl, hbl, hbz, hbc⟩ := hvm))
           intro K hK
           go_wp2_with ((go_at_call 27; (with_reducible refine (HAT.out _ (up_upOf _ _)).mono ?_); rintro e w' ⟨rfl, hux⟩))
           apply hK
           · (repeat (first | with_reducible exact Up.refl _ | with_reducible refine Up.alloc ?_ _ | with_reducible refine Up.drew ?_ | with_reducible refine Up.drewN ?_ _ | with_reducible refine Up.setCell ?_ (by (try simp) <;> omega) _ | with_reducible assumption | with_reducible refine Up.trans ?_ (by assumption)))
           · rfl
           · exact tmps_at rfl
           · first | exact rsl_lit _ _ _ _ _ _ rfl rfl (by simp [maxLen]) rfl | exact ⟨_, _, rfl, hgm, hcm⟩ | exact ⟨_, _, rfl, hgm, hdm⟩ | assumption
         simp only [Act.put, List.setIfInBounds_toArray, List.set_cons_succ, List.set_cons_zero]))
    refine mix_nil ?_
    intro w9 hb_w9
    simp only [fin]
    intro vm_w9_0 hvm_w9_0
    simp only [Act.put, List.setIfInBounds_toArray, List.set_cons_succ, List.set_cons_zero]
    obtain ⟨Ax, nx, cx, rfl, hnx, hx1, hx2, hrx⟩ := hvm_w9_0
    simp only [List.length_cons, List.length_nil, Nat.zero_add, Nat.reduceAdd] at hnx
    subst hnx
    have b9 := (hb_w9.at_ _ zo)
    have q19 := (b9.1 0).trans q1
    have q29 := (b9.2 0).trans q2
    have z9 := hb_w9.size
    have zo9 : w.heap.size + 1 < w9.heap.size := by omega
    have HB9 := Lib.hid hb_w9
    have HRX := Lib.hid hrx
    clear b9 hb_w9 q1 q2 hrx
    gi_wp2_with (gi_at_builtin; refine wpListIn_appY i0 hi hz0 hz1 hz2 Try.underlying33 rfl (.tmp 11) (.tmp 16) rfl dch w3.heap.size A Ax pre.length c0 cx (pre.map (fun n => (X.at_ n).ch)) rfl rfl (H3.out.up HB9.out) HRX.out (by omega) (by omega) ?_; intro A1 c1 w1 hown1 hg1 hbl1 hp1; obtain ⟨gc, gz⟩ := grown_at hg1 (w.heap.size + 1) zo9 (HNE.out _ (by omega)); have gc1 := (gc 0).trans q19; have gz1 := (gz 0).trans q29; have HO2 := Lib.hid hown1; have HG1 := Lib.hid hg1; have HB1 := Lib.hid hbl1; have HP1 := Lib.hid hp1; have hzw1 := hbl1.size; clear hown1 hg1 hbl1 hp1 gc gz)
    have hf := OutY.pushY (T := fun _ => False) (r := (Value.slice A pre.length c0).ownBlock) (OutY.own.up HI.out HB9.out) (fun k hk => by have := HZ.out k hk; omega) H5.out HO2.out HG1.out (fun k hk => by
      cases A with
      | none => simp [Value.ownBlock] at hk
      | some p => simp [Value.ownBlock] at hk; exact ⟨p, rfl, hk⟩) HB1.out (by omega) (by omega) HP1.out gc1 gz1 (.inr (by omega))
    have hcx : ∀ x, x < w3.heap.size → x ≠ w.heap.size + 1 → W.cell? ⟨x, 0, none⟩ = some (.pointer (some ⟨p, 0, none⟩)) → (w1.setCell ⟨w.heap.size + 1, 0, none⟩ (.slice A1 (pre.length + 1) c1)).cell? ⟨x, 0, none⟩ = some (.pointer (some ⟨p, 0, none⟩)) := fun x h1 h2 h3 =>
      (World.cell?_setCell_other _ _ _ _ (fun e => h2 (by injection e with e; exact e.symm))).trans ((World.cell?_of_block (a := ⟨x, 0, none⟩) (HB1.out.block x h1)).trans (((HB9.out.at_ x (cell_lt h3)).1 0).trans h3))
    have hup := hf.2.up.upto (fun i hi => hi.elim)
    refine ⟨(Held.of_up HB9.out HZ.out).trans hf.1, ⟨hup, hcx b (by omega) (by omega) HI1.out.hb, HI1.out.nb, HI1.out.nw⟩, ⟨hup, hcx w.heap.size (by omega) (by omega) HI2.out.hb, HI2.out.nb, HI2.out.nw⟩, ?_⟩
    rw [List.map_append, List.map_cons, List.map_nil, ← HD.out]
    exact hf.2
  case done =>
    rintro Dd N xs W hD hND hN0 hS ⟨hI1, hI2, hI⟩ hK
    obtain ⟨A, c, h2, h4⟩ := hI.fin
    have HI := Lib.hid hI
    have HI1 := Lib.hid hI1
    have HK := Lib.hid hK
    have HND := Lib.hid hND
    have zo := cell_lt h2
    have hX : xs.map (fun n => (X.at_ n).ch) = X.text a := by rw [HTX.out, hS]
    rw [hX] at h2
    have HX := Lib.hid hX
    clear hI hI1 hI2 hK hND h4 hX hS
    go_wp2
    refine ⟨by simp, .inl ⟨_, _, rfl, run_takeDeferred HK.out, ?_⟩⟩
    have hfin := OutY.own N N _ W (W.putObj Dd (.deferred none)) HI.out (keep_put _ HND.out) (fun k hk => .inl hk)
    obtain ⟨A', c', h2', h4'⟩ := hfin.fin
    rw [HX.out] at h2' h4'
    have e : A' = A ∧ c' = c := by
      have := (keep_put (N := fun k => k = Dd) (W := W) (l := Dd) (.deferred none) rfl).at_ (w.heap.size + 1) zo (fun e => HI.out.no (e ▸ HND.out))
      have h := (this.1 0).symm.trans h2'
      rw [h2] at h
      injection h with h
      injection h with h1 h2 h3
      exact ⟨h1.symm, h3.symm⟩
    obtain ⟨rfl, rfl⟩ := e
    exact ⟨_, results_tmp rfl _ _ _, A', c', rfl, h4'.low (by omega), hfin.up.upto (fun i hi => hi.elim)⟩
end Go.Proofs.Ytjokcfenncogkaa
