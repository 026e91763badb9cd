/-
  Slices of bytes that a call makes by appends. No condition.
-/
import Derived.Test.YthdoighlfoinaaaDoorListI
import Derived.Test.YthdoighlfoinaaaDoorBytes
import Derived.Test.YthdoighlfoinaaaDoorApp
namespace Go.Proofs.YthdoighlfoinaaaDoor
open Go.RowKit
set_option linter.unusedVariables false
set_option linter.unusedSimpArgs false

theorem bs_snoc13 (l : List Int) (y : Int) : bs (l ++ [y]) = bs l ++ [.int .u8 y] := by simp [bs]
/-- a slice of bytes that is the call's own -/
structure OwnB (B : Nat) (W : World) (A : Option Addr) (n c : Nat) (l : List Int) : Prop where
  own : W.ownsRow B 5 1 (.slice A n c) n (bs l)
  len : l.length = n
  le : n ≤ c
  mx : c ≤ maxLen
theorem OwnB.nil (B : Nat) (W : World) : OwnB B W none 0 0 [] := ⟨⟨rfl, .inl ⟨rfl, rfl⟩⟩, rfl, Nat.le_refl _, by simp [maxLen]⟩
theorem OwnB.up {B : Nat} {W W' : World} {A : Option Addr} {n c : Nat} {l : List Int} (h : OwnB B W A n c l) (hu : Up W W') : OwnB B W' A n c l := ⟨own_up h.own hu, h.len, h.le, h.mx⟩
theorem OwnB.reads {B : Nat} {W : World} {A : Option Addr} {n c : Nat} {l : List Int} (h : OwnB B W A n c l) : Reads W W.heap.size 1 A n (bs l) := Reads.of_own h.own
theorem OwnB.low {B B' : Nat} {W : World} {A : Option Addr} {n c : Nat} {l : List Int} (h : OwnB B W A n c l) (hB : B' ≤ B) : OwnB B' W A n c l := ⟨own_base h.own hB, h.len, h.le, h.mx⟩
theorem OwnB.at_ {B : Nat} {W : World} {A : Option Addr} {n c : Nat} {l : List Int} (h : OwnB B W A n c l) : ∀ p, A = some p → B ≤ p.block ∧ p.block < W.heap.size := by
  intro p hp
  subst hp
  exact own_bd h.own p.block rfl
theorem OwnB.far {B : Nat} {W : World} {A : Option Addr} {n c : Nat} {l : List Int} (h : OwnB B W A n c l) {p : Addr} (hp : p.block < B) (u : Value) : OwnB B (W.setCell p u) A n c l := ⟨own_far h.own hp u, h.len, h.le, h.mx⟩
theorem OwnB.held {B : Nat} {W W' : World} {A : Option Addr} {n c : Nat} {l : List Int} {E : Nat → Prop} (h : OwnB B W A n c l) (hk : Keep E W W') (he : ∀ p, A = some p → ¬ E p.block) : OwnB B W' A n c l := by
  refine ⟨⟨h.own.1, ?_⟩, h.len, h.le, h.mx⟩
  rcases h.own.2 with h0 | ⟨g, cap, cur, e1, e2, e3, e4⟩
  · exact .inl h0
  · injection e1 with e1 e1' e1''
    refine .inr ⟨g, cap, cur, by rw [e1, e1''], e2, ?_, e4⟩
    exact (hk.block g (Array.getElem?_eq_some_iff.1 e3).1 (he _ e1)).trans e3
theorem OwnB.cells {B : Nat} {W : World} {A : Option Addr} {n c : Nat} {l : List Int} (h : OwnB B W A n c l) : ∀ p, A = some p → ∃ o : Obj, W.heap[p.block]? = some o ∧ o.isCells = true := by
  intro p hp
  subst hp
  exact (own_cells h.own p.block rfl).2

section
variable {P : Program}
theorem run_pushB {W : World} (i0 : TypeInfo) (hi : P.info? 5 = some i0) (hz0 : i0.zero = some (.int .u8 0)) (hz1 : i0.size = 1) (hz2 : i0.bytes = 1) (hP : P.underlying 33 = some (.slice 5)) (ty : TypeId)
    (y : Int) (B : Nat) (A : Option Addr) (n c : Nat) (l : List Int) (hown : OwnB B W A n c l) (hn : n ≤ 65535) (hB : B ≤ W.heap.size) :
    ∃ A' c' w', (Builtin.append_ #[33, 33] ty #[.slice A n c, .slice (some ⟨W.heap.size, 0, none⟩) 1 1]).run P (W.alloc (.cells #[.int .u8 y] 5)) = .ok (.slice A' (n + 1) c') w' ∧
      OwnB B w' A' (n + 1) c' (l ++ [y]) ∧ (W.alloc (.cells #[.int .u8 y] 5)).grownBy w' (Value.slice A n c).ownBlock ∧ Below B W w' ∧ (∀ p, A' = some p → (∃ p', A = some p' ∧ p.block = p'.block) ∨ W.heap.size < p.block) := by
  have hown' := own_up hown.own ((Up.refl W).alloc (.cells #[.int .u8 y] 5))
  obtain ⟨v', w', hrun, h2, h3, _, h5⟩ := run_append_own_at (P := P) (W.alloc (.cells #[.int .u8 y] 5)) B 33 ty 5 i0 _ 1 1 hP hi hz0 hz1 hz2 rfl (by decide) _ n (bs l) hown' ⟨W.heap.size, 0, none⟩ 1 1 [.int .u8 y] rfl (cell_one_new W _ _) (by simp [Value.oneCell']) (by simp [maxLen]; omega) (by omega) (by simp; omega)
  obtain ⟨A', c', rfl, hle, hmx⟩ := own_form h2
  refine ⟨A', c', w', hrun, ⟨by rw [bs_snoc13]; exact h2, by simp [hown.len], hle, hmx⟩, h3, ?_, ?_⟩
  · refine ((Below.refl B W).alloc hB _).grown h3 (by simp; omega) fun k hk => ?_
    exact (own_bd hown.own k hk).1
  · intro p hp
    subst hp
    rcases h5 with h5 | h5
    · left
      cases A with
      | none => simp [Value.ownBlock] at h5
      | some p' => simp [Value.ownBlock] at h5; exact ⟨p', rfl, h5⟩
    · right
      simp [Value.ownBlock] at h5
      omega
/-- one more -/
theorem wpList_pushB {ops : Array Oper} {rest : List Oper} {o : Oper} {a : Act} {Q : Exit → Act → World → Prop} {w : World} (i0 : TypeInfo) (hi : P.info? 5 = some i0) (hz0 : i0.zero = some (.int .u8 0)) (hz1 : i0.size = 1) (hz2 : i0.bytes = 1) (hP : P.underlying 33 = some (.slice 5))
    (hgd : o.guard = none) (s x : Operand) (ho : o.op = .call { callee := .builtin .append, args := #[s, x], argTypes := #[33, 33] })
    (W : World) (y : Int) (hw : w = W.alloc (.cells #[.int .u8 y] 5)) (g : Nat) (hg : g = W.heap.size) (B : Nat) (A : Option Addr) (n c : Nat) (l : List Int) (hs : a.eval s = .slice A n c) (hx : a.eval x = .slice (some ⟨g, 0, none⟩) 1 1)
    (hown : OwnB B W A n c l) (hn : n ≤ 65535) (hB : B ≤ W.heap.size)
    (h : ∀ A' c' w', OwnB B w' A' (n + 1) c' (l ++ [y]) → w.grownBy w' (Value.slice A n c).ownBlock → Below B W w' → (∀ p, A' = some p → (∃ p', A = some p' ∧ p.block = p'.block) ∨ W.heap.size < p.block) → wpList P ops Q rest (a.put o.dst (.slice A' (n + 1) c')) w') : wpList P ops Q (o :: rest) a w := by
  subst hw; subst hg
  refine wpList_plain hgd fun K hK => ?_
  obtain ⟨A', c', w', hr', h2, h3, h4, h5⟩ := run_pushB (P := P) i0 hi hz0 hz1 hz2 hP o.type y B A n c l hown hn hB
  unfold Oper.wp execOp
  simp only [ho, resolve, invoke, builtin, Sem.run_bind, Sem.run_pure, Result.andThen_ok, List.map_toArray, List.map_cons, List.map_nil, hs, hx, hr']
  exact hK _ _ (h A' c' w' h2 h3 h4 h5)
theorem wpListIn_pushB {lb nn : Nat} {ops : Array Oper} {rest : List Oper} {o : Oper} {a : Act} {Q : Exit → Act → World → Prop} {w : World} (i0 : TypeInfo) (hi : P.info? 5 = some i0) (hz0 : i0.zero = some (.int .u8 0)) (hz1 : i0.size = 1) (hz2 : i0.bytes = 1) (hP : P.underlying 33 = some (.slice 5))
    (hgd : o.guard = none) (s x : Operand) (ho : o.op = .call { callee := .builtin .append, args := #[s, x], argTypes := #[33, 33] })
    (W : World) (y : Int) (hw : w = W.alloc (.cells #[.int .u8 y] 5)) (g : Nat) (hg : g = W.heap.size) (B : Nat) (A : Option Addr) (n c : Nat) (l : List Int) (hs : a.eval s = .slice A n c) (hx : a.eval x = .slice (some ⟨g, 0, none⟩) 1 1)
    (hown : OwnB B W A n c l) (hn : n ≤ 65535) (hB : B ≤ W.heap.size)
    (h : ∀ A' c' w', OwnB B w' A' (n + 1) c' (l ++ [y]) → w.grownBy w' (Value.slice A n c).ownBlock → Below B W w' → (∀ p, A' = some p → (∃ p', A = some p' ∧ p.block = p'.block) ∨ W.heap.size < p.block) → wpListIn (Fence.wide.inRound lb) nn P ops Q rest (a.put o.dst (.slice A' (n + 1) c')) w') :
    wpListIn (Fence.wide.inRound lb) nn P ops Q (o :: rest) a w := by
  subst hw; subst hg
  have hw : Region.wanted o (yielded ops a.tmps) = true := by simp [Region.wanted, hgd]
  unfold wpListIn
  rw [if_pos hw]
  obtain ⟨A', c', w', hr', h2, h3, h4, h5⟩ := run_pushB (P := P) i0 hi hz0 hz1 hz2 hP o.type y B A n c l hown hn hB
  refine oper_in (fun cc => by rw [ho]; simp) ?_
  unfold Oper.wp execOp
  simp only [ho, resolve, invoke, builtin, Sem.run_bind, Sem.run_pure, Result.andThen_ok, List.map_toArray, List.map_cons, List.map_nil, hs, hx, hr']
  exact h A' c' w' h2 h3 h4 h5
theorem run_appB {W : World} (i0 : TypeInfo) (hi : P.info? 5 = some i0) (hz0 : i0.zero = some (.int .u8 0)) (hz1 : i0.size = 1) (hz2 : i0.bytes = 1) (hP : P.underlying 33 = some (.slice 5)) (ty : TypeId)
    (y : Int) (B : Nat) (A Ax : Option Addr) (n c cx : Nat) (l : List Int) (hown : OwnB B W A n c l) (hr : Reads W W.heap.size 1 Ax 1 (bs [y])) (hn : n ≤ 65535) (hB : B ≤ W.heap.size) :
    ∃ A' c' w', (Builtin.append_ #[33, 33] ty #[.slice A n c, .slice Ax 1 cx]).run P W = .ok (.slice A' (n + 1) c') w' ∧
      OwnB B w' A' (n + 1) c' (l ++ [y]) ∧ W.grownBy w' (Value.slice A n c).ownBlock ∧ Below B W w' := by
  obtain ⟨A', c', w', h1, h2, h3, h4, h5, h6⟩ := run_app (P := P) W B 33 ty 5 i0 _ 1 1 hP hi hz0 hz1 hz2 rfl (by decide) A n c (bs l) hown.own W.heap.size Ax 1 cx (bs [y]) hr (by simp [bs, Value.oneCell']) (by simp [maxLen]; omega) (by omega) hB
  exact ⟨A', c', w', h1, ⟨by rw [bs_snoc13]; exact h2, by simp [hown.len], h4, h5⟩, h3, h6⟩
end
end Go.Proofs.YthdoighlfoinaaaDoor
