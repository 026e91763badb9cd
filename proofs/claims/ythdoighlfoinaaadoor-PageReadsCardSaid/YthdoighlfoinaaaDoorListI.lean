/-
  Slices of ints that a call makes by appends; the numbers below one of which something holds. No condition.
-/
import Derived.Test.YthdoighlfoinaaaDoorCollI
namespace Go.Proofs.YthdoighlfoinaaaDoor
open Go.RowKit
set_option linter.unusedVariables false
set_option linter.unusedSimpArgs false

/-- the numbers below n of which f holds -/
def those (f : Nat → Bool) (n : Nat) : List Int := ((List.range n).filter f).map fun o : Nat => (o : Int)
theorem those_succ (f : Nat → Bool) (n : Nat) : those f (n + 1) = if f n then those f n ++ [(n : Int)] else those f n := by
  unfold those
  rw [List.range_succ, List.filter_append]
  by_cases h : f n
  · simp [h]
  · simp [h]
theorem those_t {f : Nat → Bool} {n : Nat} (h : f n = true) : those f (n + 1) = those f n ++ [(n : Int)] := by rw [those_succ, if_pos h]
theorem those_f {f : Nat → Bool} {n : Nat} (h : f n = false) : those f (n + 1) = those f n := by rw [those_succ, if_neg (by rw [h]; simp)]
theorem those_pre (f : Nat → Bool) {m n : Nat} (h : m ≤ n) : those f m <+: those f n := by
  induction n with
  | zero => obtain rfl : m = 0 := by omega
            exact List.prefix_refl _
  | succ n ih =>
    rcases Nat.lt_or_ge m (n + 1) with hlt | hge
    · have h1 := ih (by omega)
      rw [those_succ]
      split
      · exact h1.trans (List.prefix_append _ _)
      · exact h1
    · obtain rfl : m = n + 1 := by omega
      exact List.prefix_refl _
theorem those_len (f : Nat → Bool) (n : Nat) : (those f n).length ≤ n := by
  unfold those
  rw [List.length_map]
  exact Nat.le_trans (List.length_filter_le _ _) (by simp)
theorem mem_those {f : Nat → Bool} {n : Nat} {x : Int} : x ∈ those f n ↔ ∃ k : Nat, x = k ∧ k < n ∧ f k = true := by
  unfold those
  simp only [List.mem_map, List.mem_filter, List.mem_range]
  constructor
  · rintro ⟨k, ⟨h1, h2⟩, rfl⟩; exact ⟨k, rfl, h1, h2⟩
  · rintro ⟨k, rfl, h1, h2⟩; exact ⟨k, ⟨h1, h2⟩, rfl⟩
theorem those_congr {f g : Nat → Bool} {n : Nat} (h : ∀ k, k < n → f k = g k) : those f n = those g n := by
  induction n with
  | zero => rfl
  | succ n ih => rw [those_succ, those_succ, ih (fun k hk => h k (by omega)), h n (by omega)]

/-- a slice of ints that is the call's own -/
structure OwnI (B : Nat) (W : World) (A : Option Addr) (n c : Nat) (l : List Int) : Prop where
  own : W.ownsRow B 3 1 (.slice A n c) n (ns l)
  len : l.length = n
  le : n ≤ c
  mx : c ≤ maxLen
theorem OwnI.nil (B : Nat) (W : World) : OwnI B W none 0 0 [] := ⟨⟨rfl, .inl ⟨rfl, rfl⟩⟩, rfl, Nat.le_refl _, by simp [maxLen]⟩
theorem OwnI.up {B : Nat} {W W' : World} {A : Option Addr} {n c : Nat} {l : List Int} (h : OwnI B W A n c l) (hu : Up W W') : OwnI B W' A n c l := ⟨own_up h.own hu, h.len, h.le, h.mx⟩
theorem OwnI.reads {B : Nat} {W : World} {A : Option Addr} {n c : Nat} {l : List Int} (h : OwnI B W A n c l) : Reads W W.heap.size 1 A n (ns l) := Reads.of_own h.own
theorem OwnI.low {B B' : Nat} {W : World} {A : Option Addr} {n c : Nat} {l : List Int} (h : OwnI B W A n c l) (hB : B' ≤ B) : OwnI B' W A n c l := ⟨own_base h.own hB, h.len, h.le, h.mx⟩
theorem OwnI.at_ {B : Nat} {W : World} {A : Option Addr} {n c : Nat} {l : List Int} (h : OwnI B W A n c l) : ∀ p, A = some p → B ≤ p.block ∧ p.block < W.heap.size := by
  intro p hp
  subst hp
  exact own_bd h.own p.block rfl
theorem OwnI.far {B : Nat} {W : World} {A : Option Addr} {n c : Nat} {l : List Int} (h : OwnI B W A n c l) {p : Addr} (hp : p.block < B) (u : Value) : OwnI B (W.setCell p u) A n c l := ⟨own_far h.own hp u, h.len, h.le, h.mx⟩
theorem OwnI.held {B : Nat} {W W' : World} {A : Option Addr} {n c : Nat} {l : List Int} {E : Nat → Prop} (h : OwnI B W A n c l) (hk : Keep E W W') (he : ∀ p, A = some p → ¬ E p.block) : OwnI B W' A n c l := by
  refine ⟨⟨h.own.1, ?_⟩, h.len, h.le, h.mx⟩
  rcases h.own.2 with h0 | ⟨g, cap, cur, e1, e2, e3, e4⟩
  · exact .inl h0
  · injection e1 with e1 e1' e1''
    refine .inr ⟨g, cap, cur, by rw [e1, e1''], e2, ?_, e4⟩
    exact (hk.block g (Array.getElem?_eq_some_iff.1 e3).1 (he _ e1)).trans e3
theorem OwnI.cells {B : Nat} {W : World} {A : Option Addr} {n c : Nat} {l : List Int} (h : OwnI B W A n c l) : ∀ p, A = some p → ∃ o : Obj, W.heap[p.block]? = some o ∧ o.isCells = true := by
  intro p hp
  subst hp
  exact (own_cells h.own p.block rfl).2

section
variable {P : Program}
theorem run_push {W : World} (i0 : TypeInfo) (hi : P.info? 3 = some i0) (hz0 : i0.zero = some (.int .i64 0)) (hz1 : i0.size = 1) (hz2 : i0.bytes = 8) (hP : P.underlying 46 = some (.slice 3)) (ty : TypeId)
    (y : Int) (B : Nat) (A : Option Addr) (n c : Nat) (l : List Int) (hown : OwnI B W A n c l) (hn : n ≤ 65535) (hB : B ≤ W.heap.size) :
    ∃ A' c' w', (Builtin.append_ #[46, 46] ty #[.slice A n c, .slice (some ⟨W.heap.size, 0, none⟩) 1 1]).run P (W.alloc (.cells #[.int .i64 y] 3)) = .ok (.slice A' (n + 1) c') w' ∧
      OwnI B w' A' (n + 1) c' (l ++ [y]) ∧ (W.alloc (.cells #[.int .i64 y] 3)).grownBy w' (Value.slice A n c).ownBlock ∧ Below B W w' ∧ (∀ p, A' = some p → (∃ p', A = some p' ∧ p.block = p'.block) ∨ W.heap.size < p.block) := by
  have hown' := own_up hown.own ((Up.refl W).alloc (.cells #[.int .i64 y] 3))
  obtain ⟨v', w', hrun, h2, h3, _, h5⟩ := run_append_own_at (P := P) (W.alloc (.cells #[.int .i64 y] 3)) B 46 ty 3 i0 _ 1 8 hP hi hz0 hz1 hz2 rfl (by decide) _ n (ns l) hown' ⟨W.heap.size, 0, none⟩ 1 1 [.int .i64 y] rfl (cell_one_new W _ _) (by simp [Value.oneCell']) (by simp [maxLen]; omega) (by omega) (by simp; omega)
  obtain ⟨A', c', rfl, hle, hmx⟩ := own_form h2
  refine ⟨A', c', w', hrun, ⟨by rw [ns_snoc]; exact h2, by simp [hown.len], hle, hmx⟩, h3, ?_, ?_⟩
  · refine ((Below.refl B W).alloc hB _).grown h3 (by simp; omega) fun k hk => ?_
    exact (own_bd hown.own k hk).1
  · intro p hp
    subst hp
    rcases h5 with h5 | h5
    · left
      cases A with
      | none => simp [Value.ownBlock] at h5
      | some p' => simp [Value.ownBlock] at h5; exact ⟨p', rfl, h5⟩
    · right
      simp [Value.ownBlock] at h5
      omega
/-- one more -/
theorem wpList_push {ops : Array Oper} {rest : List Oper} {o : Oper} {a : Act} {Q : Exit → Act → World → Prop} {w : World} (i0 : TypeInfo) (hi : P.info? 3 = some i0) (hz0 : i0.zero = some (.int .i64 0)) (hz1 : i0.size = 1) (hz2 : i0.bytes = 8) (hP : P.underlying 46 = some (.slice 3))
    (hgd : o.guard = none) (s x : Operand) (ho : o.op = .call { callee := .builtin .append, args := #[s, x], argTypes := #[46, 46] })
    (W : World) (y : Int) (hw : w = W.alloc (.cells #[.int .i64 y] 3)) (g : Nat) (hg : g = W.heap.size) (B : Nat) (A : Option Addr) (n c : Nat) (l : List Int) (hs : a.eval s = .slice A n c) (hx : a.eval x = .slice (some ⟨g, 0, none⟩) 1 1)
    (hown : OwnI B W A n c l) (hn : n ≤ 65535) (hB : B ≤ W.heap.size)
    (h : ∀ A' c' w', OwnI B w' A' (n + 1) c' (l ++ [y]) → w.grownBy w' (Value.slice A n c).ownBlock → Below B W w' → (∀ p, A' = some p → (∃ p', A = some p' ∧ p.block = p'.block) ∨ W.heap.size < p.block) → wpList P ops Q rest (a.put o.dst (.slice A' (n + 1) c')) w') : wpList P ops Q (o :: rest) a w := by
  subst hw; subst hg
  refine wpList_plain hgd fun K hK => ?_
  obtain ⟨A', c', w', hr', h2, h3, h4, h5⟩ := run_push (P := P) i0 hi hz0 hz1 hz2 hP o.type y B A n c l hown hn hB
  unfold Oper.wp execOp
  simp only [ho, resolve, invoke, builtin, Sem.run_bind, Sem.run_pure, Result.andThen_ok, List.map_toArray, List.map_cons, List.map_nil, hs, hx, hr']
  exact hK _ _ (h A' c' w' h2 h3 h4 h5)
theorem wpListIn_push {lb nn : Nat} {ops : Array Oper} {rest : List Oper} {o : Oper} {a : Act} {Q : Exit → Act → World → Prop} {w : World} (i0 : TypeInfo) (hi : P.info? 3 = some i0) (hz0 : i0.zero = some (.int .i64 0)) (hz1 : i0.size = 1) (hz2 : i0.bytes = 8) (hP : P.underlying 46 = some (.slice 3))
    (hgd : o.guard = none) (s x : Operand) (ho : o.op = .call { callee := .builtin .append, args := #[s, x], argTypes := #[46, 46] })
    (W : World) (y : Int) (hw : w = W.alloc (.cells #[.int .i64 y] 3)) (g : Nat) (hg : g = W.heap.size) (B : Nat) (A : Option Addr) (n c : Nat) (l : List Int) (hs : a.eval s = .slice A n c) (hx : a.eval x = .slice (some ⟨g, 0, none⟩) 1 1)
    (hown : OwnI B W A n c l) (hn : n ≤ 65535) (hB : B ≤ W.heap.size)
    (h : ∀ A' c' w', OwnI B w' A' (n + 1) c' (l ++ [y]) → w.grownBy w' (Value.slice A n c).ownBlock → Below B W w' → (∀ p, A' = some p → (∃ p', A = some p' ∧ p.block = p'.block) ∨ W.heap.size < p.block) → wpListIn (Fence.wide.inRound lb) nn P ops Q rest (a.put o.dst (.slice A' (n + 1) c')) w') :
    wpListIn (Fence.wide.inRound lb) nn P ops Q (o :: rest) a w := by
  subst hw; subst hg
  have hw : Region.wanted o (yielded ops a.tmps) = true := by simp [Region.wanted, hgd]
  unfold wpListIn
  rw [if_pos hw]
  obtain ⟨A', c', w', hr', h2, h3, h4, h5⟩ := run_push (P := P) i0 hi hz0 hz1 hz2 hP o.type y B A n c l hown hn hB
  refine oper_in (fun cc => by rw [ho]; simp) ?_
  unfold Oper.wp execOp
  simp only [ho, resolve, invoke, builtin, Sem.run_bind, Sem.run_pure, Result.andThen_ok, List.map_toArray, List.map_cons, List.map_nil, hs, hx, hr']
  exact h A' c' w' h2 h3 h4 h5
end
end Go.Proofs.YthdoighlfoinaaaDoor
