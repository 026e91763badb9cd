/-
  Slices of cells that a call makes by appends; a box that holds one. No condition.
-/
import Derived.Test.YtjokcfenncogkaaCopy
import Derived.Test.YtjokcfenncogkaaCollN
namespace Go.Proofs.Ytjokcfenncogkaa
open Go.RowKit
set_option linter.unusedVariables false
set_option linter.unusedSimpArgs false

theorem flatC_snoc (L : List Cl) (c : Cl) : flatC (L ++ [c]) = flatC L ++ c.enc := by simp [flatC]
/-- a slice of cells that is the call's own -/
structure OwnC (B : Nat) (W : World) (A : Option Addr) (n c : Nat) (l : List Cl) : Prop where
  own : W.ownsRow B 25 6 (.slice A n c) n (flatC l)
  len : l.length = n
  le : n ≤ c
  mx : c ≤ maxLen
theorem OwnC.nil (B : Nat) (W : World) : OwnC B W none 0 0 [] := ⟨⟨rfl, .inl ⟨rfl, rfl⟩⟩, rfl, Nat.le_refl _, by simp [maxLen]⟩
theorem OwnC.up {B : Nat} {W W' : World} {A : Option Addr} {n c : Nat} {l : List Cl} (h : OwnC B W A n c l) (hu : Up W W') : OwnC B W' A n c l := ⟨own_up h.own hu, h.len, h.le, h.mx⟩
theorem OwnC.low {B B' : Nat} {W : World} {A : Option Addr} {n c : Nat} {l : List Cl} (h : OwnC B W A n c l) (hB : B' ≤ B) : OwnC B' W A n c l := ⟨own_base h.own hB, h.len, h.le, h.mx⟩
theorem OwnC.at_ {B : Nat} {W : World} {A : Option Addr} {n c : Nat} {l : List Cl} (h : OwnC B W A n c l) : ∀ p, A = some p → B ≤ p.block ∧ p.block < W.heap.size := by
  intro p hp
  subst hp
  exact own_bd h.own p.block rfl
theorem OwnC.far {B : Nat} {W : World} {A : Option Addr} {n c : Nat} {l : List Cl} (h : OwnC B W A n c l) {p : Addr} (hp : p.block < B) (u : Value) : OwnC B (W.setCell p u) A n c l := ⟨own_far h.own hp u, h.len, h.le, h.mx⟩
theorem OwnC.held {B : Nat} {W W' : World} {A : Option Addr} {n c : Nat} {l : List Cl} {E : Nat → Prop} (h : OwnC B W A n c l) (hk : Keep E W W') (he : ∀ p, A = some p → ¬ E p.block) : OwnC B W' A n c l := by
  refine ⟨⟨h.own.1, ?_⟩, h.len, h.le, h.mx⟩
  rcases h.own.2 with h0 | ⟨g, cap, cur, e1, e2, e3, e4⟩
  · exact .inl h0
  · injection e1 with e1 e1' e1''
    refine .inr ⟨g, cap, cur, by rw [e1, e1''], e2, ?_, e4⟩
    exact (hk.block g (Array.getElem?_eq_some_iff.1 e3).1 (he _ e1)).trans e3
/-- the block of a cell -/
def cellO (x : Cl) : Obj := .cells #[.int .u8 x.ch, .bool x.at_, .int .u8 x.fa, .int .u8 x.hi, .int .u8 x.co, .int .u8 x.se] 25
section
variable {P : Program}
theorem run_pushC {W : World} (i0 : TypeInfo) (hi : P.info? 25 = some i0) (hz0 : i0.zero = some Cl.zero.val) (hz1 : i0.size = 6) (hz2 : i0.bytes = 6) (hP : P.underlying 59 = some (.slice 25)) (ty : TypeId)
    (y : Cl) (B : Nat) (A : Option Addr) (n c : Nat) (l : List Cl) (hown : OwnC B W A n c l) (hn : n ≤ 65535) (hB : B ≤ W.heap.size) :
    ∃ A' c' w', (Builtin.append_ #[59, 59] ty #[.slice A n c, .slice (some ⟨W.heap.size, 0, none⟩) 1 1]).run P (W.alloc (cellO y)) = .ok (.slice A' (n + 1) c') w' ∧
      OwnC B w' A' (n + 1) c' (l ++ [y]) ∧ (W.alloc (cellO y)).grownBy w' (Value.slice A n c).ownBlock ∧ Below B W w' ∧ (∀ p, A' = some p → (∃ p', A = some p' ∧ p.block = p'.block) ∨ W.heap.size < p.block) := by
  have hown' := own_up hown.own ((Up.refl W).alloc (cellO y))
  obtain ⟨v', w', hrun, h2, h3, _, h5⟩ := run_append_own_at (P := P) (W.alloc (cellO y)) B 59 ty 25 i0 _ 6 6 hP hi hz0 hz1 hz2 rfl (by decide) _ n (flatC l) hown' ⟨W.heap.size, 0, none⟩ 1 1 y.enc rfl
    (fun j u hu => by
      have hj : j < 6 := (List.getElem?_eq_some_iff.1 hu).1
      rw [at_add, Nat.zero_add]
      unfold cellO
      rw [World.cell?_alloc_new]
      exact (List.getElem?_toArray ..).trans hu) (fun u hu => by
      simp only [Cl.enc, List.mem_cons, List.not_mem_nil, or_false] at hu
      rcases hu with rfl | rfl | rfl | rfl | rfl | rfl <;> rfl) (by simp [maxLen]; omega) (by omega) (by simp; omega)
  obtain ⟨A', c', rfl, hle, hmx⟩ := own_form h2
  refine ⟨A', c', w', hrun, ⟨by rw [flatC_snoc]; exact h2, by simp [hown.len], hle, hmx⟩, h3, ?_, ?_⟩
  · refine ((Below.refl B W).alloc hB _).grown h3 (by simp; omega) fun k hk => ?_
    exact (own_bd hown.own k hk).1
  · intro p hp
    subst hp
    rcases h5 with h5 | h5
    · left
      cases A with
      | none => simp [Value.ownBlock] at h5
      | some p' => simp [Value.ownBlock] at h5; exact ⟨p', rfl, h5⟩
    · right
      simp [Value.ownBlock] at h5
      omega
theorem wpList_pushC {ops : Array Oper} {rest : List Oper} {o : Oper} {a : Act} {Q : Exit → Act → World → Prop} {w : World} (i0 : TypeInfo) (hi : P.info? 25 = some i0) (hz0 : i0.zero = some Cl.zero.val) (hz1 : i0.size = 6) (hz2 : i0.bytes = 6) (hP : P.underlying 59 = some (.slice 25))
    (hgd : o.guard = none) (s x : Operand) (ho : o.op = .call { callee := .builtin .append, args := #[s, x], argTypes := #[59, 59] })
    (W : World) (y : Cl) (hw : w = W.alloc (cellO y)) (g : Nat) (hg : g = W.heap.size) (B : Nat) (A : Option Addr) (n c : Nat) (l : List Cl) (hs : a.eval s = .slice A n c) (hx : a.eval x = .slice (some ⟨g, 0, none⟩) 1 1)
    (hown : OwnC B W A n c l) (hn : n ≤ 65535) (hB : B ≤ W.heap.size)
    (h : ∀ A' c' w', OwnC B w' A' (n + 1) c' (l ++ [y]) → w.grownBy w' (Value.slice A n c).ownBlock → Below B W w' → (∀ p, A' = some p → (∃ p', A = some p' ∧ p.block = p'.block) ∨ W.heap.size < p.block) → wpList P ops Q rest (a.put o.dst (.slice A' (n + 1) c')) w') : wpList P ops Q (o :: rest) a w := by
  subst hw; subst hg
  refine wpList_plain hgd fun K hK => ?_
  obtain ⟨A', c', w', hr', h2, h3, h4, h5⟩ := run_pushC (P := P) i0 hi hz0 hz1 hz2 hP o.type y B A n c l hown hn hB
  unfold Oper.wp execOp
  simp only [ho, resolve, invoke, builtin, Sem.run_bind, Sem.run_pure, Result.andThen_ok, List.map_toArray, List.map_cons, List.map_nil, hs, hx, hr']
  exact hK _ _ (h A' c' w' h2 h3 h4 h5)
theorem wpListIn_pushC {lb nn : Nat} {ops : Array Oper} {rest : List Oper} {o : Oper} {a : Act} {Q : Exit → Act → World → Prop} {w : World} (i0 : TypeInfo) (hi : P.info? 25 = some i0) (hz0 : i0.zero = some Cl.zero.val) (hz1 : i0.size = 6) (hz2 : i0.bytes = 6) (hP : P.underlying 59 = some (.slice 25))
    (hgd : o.guard = none) (s x : Operand) (ho : o.op = .call { callee := .builtin .append, args := #[s, x], argTypes := #[59, 59] })
    (W : World) (y : Cl) (hw : w = W.alloc (cellO y)) (g : Nat) (hg : g = W.heap.size) (B : Nat) (A : Option Addr) (n c : Nat) (l : List Cl) (hs : a.eval s = .slice A n c) (hx : a.eval x = .slice (some ⟨g, 0, none⟩) 1 1)
    (hown : OwnC B W A n c l) (hn : n ≤ 65535) (hB : B ≤ W.heap.size)
    (h : ∀ A' c' w', OwnC B w' A' (n + 1) c' (l ++ [y]) → w.grownBy w' (Value.slice A n c).ownBlock → Below B W w' → (∀ p, A' = some p → (∃ p', A = some p' ∧ p.block = p'.block) ∨ W.heap.size < p.block) → wpListIn (Fence.wide.inRound lb) nn P ops Q rest (a.put o.dst (.slice A' (n + 1) c')) w') :
    wpListIn (Fence.wide.inRound lb) nn P ops Q (o :: rest) a w := by
  subst hw; subst hg
  have hw : Region.wanted o (yielded ops a.tmps) = true := by simp [Region.wanted, hgd]
  unfold wpListIn
  rw [if_pos hw]
  obtain ⟨A', c', w', hr', h2, h3, h4, h5⟩ := run_pushC (P := P) i0 hi hz0 hz1 hz2 hP o.type y B A n c l hown hn hB
  refine oper_in (fun cc => by rw [ho]; simp) ?_
  unfold Oper.wp execOp
  simp only [ho, resolve, invoke, builtin, Sem.run_bind, Sem.run_pure, Result.andThen_ok, List.map_toArray, List.map_cons, List.map_nil, hs, hx, hr']
  exact h A' c' w' h2 h3 h4 h5
end
/-- a box that holds the cells that have come; N are others' blocks -/
structure OutC (T : Nat → Prop) (w : World) (B ob : Nat) (N : Nat → Prop) (pre : List Cl) (W : World) : Prop where
  up : Keep T w W
  ex : ∃ A n c, W.cell? ⟨ob, 0, none⟩ = some (.slice A n c) ∧ W.frozen? ⟨ob, 0, none⟩ = false ∧ OwnC B W A n c pre ∧ ∀ p, A = some p → ¬ N p.block
  no : ¬ N ob
  nw : ∀ k, N k → w.heap.size ≤ k ∨ T k
  bw : B ≤ W.heap.size
theorem OutC.own {T : Nat → Prop} {w : World} {B ob : Nat} : Own2 (OutC T w B ob) := by
  rintro N N' s W W' ⟨h1, ⟨A, n, c, h2, h3, h4, h5⟩, h6, h7, h8⟩ hk hn
  have zo := cell_lt h2
  refine ⟨h1.past2 hk h7, ⟨A, n, c, ((hk.at_ ob zo h6).1 0).trans h2, ((hk.at_ ob zo h6).2 0).trans h3, h4.held hk h5, fun p hp h => ?_⟩, fun h => ?_, fun k h => ?_, by have := hk.size; omega⟩
  · rcases hn _ h with h | h
    · exact h5 p hp h
    · have := (h4.at_ p hp).2; omega
  · rcases hn _ h with h | h
    · exact h6 h
    · have : ob < W.heap.size := zo; omega
  · rcases hn _ h with h | h
    · exact h7 k h
    · have := h1.size; left; omega
theorem OutC.fin {T : Nat → Prop} {w : World} {B ob : Nat} {N : Nat → Prop} {pre : List Cl} {W : World} (h : OutC T w B ob N pre W) : ∃ A c, W.cell? ⟨ob, 0, none⟩ = some (.slice A pre.length c) ∧ OwnC B W A pre.length c pre := by
  obtain ⟨A, n, c, h2, h3, h4, h5⟩ := h.ex
  have := h4.len
  subst this
  exact ⟨A, c, h2, h4⟩
/-- what a round's append leaves -/
theorem OutC.push {T : Nat → Prop} {v : Value} {w : World} {B ob : Nat} {N : Nat → Prop} {pre : List Cl} {x : Cl} {W W' : World} {A A2 : Option Addr} {n c2 : Nat} {r : Option Nat} (hi : OutC T w B ob N pre W) (hz : ∀ k, N k → k < W.heap.size) (hA : ∀ p, A = some p → ¬ N p.block)
    (hown : OwnC B W' A2 (n + 1) c2 (pre ++ [x])) (hg : (W.alloc (cellO x)).grownBy W' r) (hr' : ∀ k, r = some k → ∃ p, A = some p ∧ p.block = k) (hbl : Below B W W') (hob : ob < B) (hwB : w.heap.size ≤ B)
    (hp : ∀ p, A2 = some p → (∃ p', A = some p' ∧ p.block = p'.block) ∨ W.heap.size < p.block) (hc : W'.cell? ⟨ob, 0, none⟩ = some v) (hf : W'.frozen? ⟨ob, 0, none⟩ = false) (hwo : T ob ∨ w.heap.size ≤ ob) :
    Held N W (W'.setCell ⟨ob, 0, none⟩ (.slice A2 (n + 1) c2)) ∧ OutC T w B ob N (pre ++ [x]) (W'.setCell ⟨ob, 0, none⟩ (.slice A2 (n + 1) c2)) := by
  have hH : Held N W (W'.setCell ⟨ob, 0, none⟩ (.slice A2 (n + 1) c2)) := fun k hk => by
    have hkz := hz k hk
    have h1 : k ≠ ob := fun e => hi.no (e ▸ hk)
    rw [Below.heap_setCell W' ⟨ob, 0, none⟩ _ k h1]
    rw [hg.block k (by simp; omega) (fun e => by
      obtain ⟨p, hp1, hp2⟩ := hr' k e.symm
      exact hA p hp1 (hp2 ▸ hk))]
    exact Below.heap_alloc _ _ _ hkz
  refine ⟨hH, ⟨?_, ⟨A2, n + 1, c2, World.cell?_setCell_same (h := hc) .., by rw [World.frozen?_setCell]; exact hf, hown.far (by exact hob) _, fun p hp' h => ?_⟩, hi.no, hi.nw, by have := hbl.size; have := hi.bw; simp [World.setCell]; omega⟩⟩
  · exact (hi.up.far (hbl.mono hwB)).setCell hwo _
  · rcases hp p hp' with ⟨p', h1, h2⟩ | h1
    · exact hA p' h1 (h2 ▸ h)
    · have := hz _ h; omega

end Go.Proofs.Ytjokcfenncogkaa
