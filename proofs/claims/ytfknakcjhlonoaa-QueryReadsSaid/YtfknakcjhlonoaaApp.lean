/-
  Appends onto a slice of the call's own, whatever the source is; the source's cells in a new block. No condition.
-/
import Derived.Test.YtfknakcjhlonoaaOpen
import Derived.Maps.AppendAt
namespace Go.Proofs.Ytfknakcjhlonoaa
open Go.RowKit
set_option linter.unusedVariables false

theorem at_add (b off j : Nat) : (⟨b, off, none⟩ : Addr).add j = ⟨b, off + j, none⟩ := by
  unfold Addr.add
  by_cases hj : j = 0 <;> simp [hj]

theorem reads_new (w : World) (size m : Nat) (cs : Array Value) (t : TypeId) (h : cs.size = m * size) :
    Reads (w.alloc (.cells cs t)) (w.heap.size + 1) size (some ⟨w.heap.size, 0, none⟩) m cs.toList :=
  ⟨by simpa using h, fun _ => ⟨w.heap.size, 0, rfl, by omega, fun j u hu => by
    rw [Nat.zero_add, World.cell?_alloc_new]
    simpa using hu⟩⟩

theorem reads_at (w : World) (g size m : Nat) (cs : Array Value) (t : TypeId) (h : cs.size = m * size) (hg : g = w.heap.size) :
    Reads (w.alloc (.cells cs t)) (w.heap.size + 1) size (some ⟨g, 0, none⟩) m cs.toList := by
  subst hg
  exact reads_new w size m cs t h

section
variable {P : Program} (w : World)

theorem run_app (base : Nat) (t ty e : TypeId) (i : TypeInfo) (z : Value) (size bytes : Nat) (ht : P.underlying t = some (.slice e)) (hi : P.info? e = some i) (hz : i.zero = some z)
    (hsize : i.size = size) (hby : i.bytes = bytes) (hzs : z.cells.size = size) (hsz : 0 < size)
    (A : Option Addr) (n c : Nat) (xs : List Value) (hown : w.ownsRow base e size (.slice A n c) n xs)
    (B : Nat) (Ax : Option Addr) (m cx : Nat) (news : List Value) (hr : Reads w B size Ax m news) (h1 : ∀ u ∈ news, u.oneCell' = true)
    (h63 : n + m ≤ maxLen) (hbytes : (n + m) * bytes ≤ 140737488355328) (hbase : base ≤ w.heap.size) :
    ∃ A' c' w', (Builtin.append_ #[t, t] ty #[.slice A n c, .slice Ax m cx]).run P w = .ok (.slice A' (n + m) c') w' ∧ w'.ownsRow base e size (.slice A' (n + m) c') (n + m) (xs ++ news) ∧ w.grownBy w' (Value.slice A n c).ownBlock ∧
      n + m ≤ c' ∧ c' ≤ maxLen ∧ Below base w w' := by
  have hgb : ∀ {w' : World}, w.grownBy w' (Value.slice A n c).ownBlock → Below base w w' := fun hg =>
    (Below.refl base w).grown hg hbase fun k hk => by
      rcases hown.2 with ⟨e1, _⟩ | ⟨g, cap, cur, e1, h2, _⟩
      · injection e1 with e1 _ _
        subst e1
        simp [Value.ownBlock] at hk
      · injection e1 with e1 _ _
        subst e1
        simp [Value.ownBlock] at hk
        omega
  rcases Ax with _ | ad
  · have hm : m = 0 := by
      rcases Nat.eq_zero_or_pos m with h0 | h0
      · exact h0
      · obtain ⟨_, _, h, _⟩ := hr.2 h0
        cases h
    subst hm
    have hn : news = [] := List.eq_nil_of_length_eq_zero (by simpa using hr.1)
    subst hn
    obtain ⟨A0, c0, e0, hle, hmx⟩ := own_form hown
    injection e0 with e1 _ e2
    subst e1; subst e2
    refine ⟨A, c, w, ?_, by simpa using hown, World.grownBy.refl w _, by simpa using hle, hmx, Below.refl _ _⟩
    rcases hown.2 with ⟨e1, rfl⟩ | ⟨g, cap, cur, e1, _, _, hnc, _⟩
    · injection e1 with e1 _ e2
      subst e1; subst e2
      simp [Builtin.append_, run_underlying ht, sizeOf, typeInfo, hi, Builtin.lenOf, Builtin.firstCells]
    · injection e1 with e1 _ e2
      subst e1; subst e2
      simp [Builtin.append_, run_underlying ht, sizeOf, typeInfo, hi, Builtin.lenOf, Builtin.firstCells, hnc, storeCells]
  · have hcells : ∀ j u, news[j]? = some u → w.cell? (ad.add j) = some u := by
      intro j u hu
      rcases Nat.eq_zero_or_pos m with h0 | h0
      · subst h0
        have hn : news = [] := List.eq_nil_of_length_eq_zero (by simpa using hr.1)
        subst hn
        simp at hu
      · obtain ⟨b, off, h, _, hc⟩ := hr.2 h0
        injection h with h
        subst h
        rw [at_add]
        exact hc j u hu
    obtain ⟨v', w', hrun, h2, h3, _, _⟩ := run_append_own_at (P := P) w base t ty e i z size bytes ht hi hz hsize hby hzs hsz _ n xs hown ad m cx news hr.1 hcells h1 h63 hbytes hbase
    obtain ⟨A', c', rfl, hle, hmx⟩ := own_form h2
    exact ⟨A', c', w', hrun, h2, h3, hle, hmx, hgb h3⟩

theorem wpList_app {ops : Array Oper} {rest : List Oper} {o : Oper} {a : Act} {Q : Exit → Act → World → Prop} (hgd : o.guard = none) (s x : Operand) (t : TypeId)
    (ho : o.op = .call { callee := .builtin .append, args := #[s, x], argTypes := #[t, t] })
    (base : Nat) (e : TypeId) (i : TypeInfo) (z : Value) (size bytes : Nat) (ht : P.underlying t = some (.slice e)) (hi : P.info? e = some i) (hz : i.zero = some z)
    (hsize : i.size = size) (hby : i.bytes = bytes) (hzs : z.cells.size = size) (hsz : 0 < size)
    (A : Option Addr) (n c : Nat) (xs : List Value) (hs : a.eval s = .slice A n c) (hown : w.ownsRow base e size (.slice A n c) n xs)
    (B : Nat) (Ax : Option Addr) (m cx : Nat) (news : List Value) (hx : a.eval x = .slice Ax m cx) (hr : Reads w B size Ax m news) (h1 : ∀ u ∈ news, u.oneCell' = true)
    (h63 : n + m ≤ maxLen) (hbytes : (n + m) * bytes ≤ 140737488355328) (hbase : base ≤ w.heap.size)
    (h : ∀ A' c' w', w'.ownsRow base e size (.slice A' (n + m) c') (n + m) (xs ++ news) → w.grownBy w' (Value.slice A n c).ownBlock → n + m ≤ c' → c' ≤ maxLen → Below base w w' →
      wpList P ops Q rest (a.put o.dst (.slice A' (n + m) c')) w') : wpList P ops Q (o :: rest) a w := by
  refine wpList_plain hgd fun K hK => ?_
  obtain ⟨A', c', w', hr', h2, h3, h4, h5, h6⟩ := run_app (P := P) w base t o.type e i z size bytes ht hi hz hsize hby hzs hsz A n c xs hown B Ax m cx news hr h1 h63 hbytes hbase
  unfold Oper.wp execOp
  simp only [ho, resolve, invoke, builtin, Sem.run_bind, Sem.run_pure, Result.andThen_ok, List.map_toArray, List.map_cons, List.map_nil, hs, hx, hr']
  exact hK _ _ (h A' c' w' h2 h3 h4 h5 h6)
end
theorem Up.past {a b c : World} (h : Up a b) (k : Below a.heap.size b c) : Up a c := Below.trans h k
theorem one_u8 (l : List Int) : ∀ u ∈ l.map (Value.int .u8), u.oneCell' = true := ints_oneCell _ _
/-- an owned row that nothing was written to since -/
theorem own_keep {a b : World} {base : Nat} {e : TypeId} {size n : Nat} {v : Value} {xs : List Value} (h : a.ownsRow base e size v n xs) (hb : Below a.heap.size a b) : b.ownsRow base e size v n xs := own_up h hb
theorem own_bd {w : World} {base : Nat} {e : TypeId} {size n : Nat} {v : Value} {xs : List Value} (h : w.ownsRow base e size v n xs) : ∀ g, v.ownBlock = some g → base ≤ g ∧ g < w.heap.size := by
  intro g hg
  rcases h.2 with ⟨rfl, _⟩ | ⟨g', cap, cur, rfl, e2, e3, _⟩
  · simp [Value.ownBlock] at hg
  · simp [Value.ownBlock] at hg
    subst hg
    refine ⟨e2, ?_⟩
    rcases Nat.lt_or_ge g' w.heap.size with hlt | hge
    · exact hlt
    · rw [Array.getElem?_eq_none hge] at e3; cases e3
theorem grown_at {a b : World} {row : Option Nat} (h : a.grownBy b row) (n : Nat) (hn : n < a.heap.size) (hr : row ≠ some n) : (∀ o, b.cell? ⟨n, o, none⟩ = a.cell? ⟨n, o, none⟩) ∧ (∀ o, b.frozen? ⟨n, o, none⟩ = a.frozen? ⟨n, o, none⟩) :=
  ⟨fun o => World.cell?_of_block (h.block n hn (fun e => hr e.symm)), fun o => World.frozen?_of_block (h.block n hn (fun e => hr e.symm))⟩
theorem own_grown {a b : World} {row : Option Nat} {base : Nat} {e : TypeId} {size n : Nat} {v : Value} {xs : List Value} (h : a.ownsRow base e size v n xs) (hg : a.grownBy b row) (hr : ∀ g, v.ownBlock = some g → row ≠ some g) : b.ownsRow base e size v n xs := by
  have hbd := own_bd h
  refine ⟨h.1, ?_⟩
  rcases h.2 with h0 | ⟨g, cap, cur, rfl, e2, e3, e4⟩
  · exact .inl h0
  · have hb := hbd g rfl
    exact .inr ⟨g, cap, cur, rfl, e2, (hg.block g hb.2 (fun e => hr g rfl e.symm)).trans e3, e4⟩
theorem own_far {w : World} {base : Nat} {e : TypeId} {size n : Nat} {v : Value} {xs : List Value} (h : w.ownsRow base e size v n xs) {p : Addr} (hp : p.block < base) (u : Value) : (w.setCell p u).ownsRow base e size v n xs := by
  refine ⟨h.1, ?_⟩
  rcases h.2 with h0 | ⟨g, cap, cur, e1, e2, e3, e4⟩
  · exact .inl h0
  · exact .inr ⟨g, cap, cur, e1, e2, (Below.heap_setCell w p u g (by omega)).trans e3, e4⟩
theorem own_base {w : World} {base base' : Nat} {e : TypeId} {size n : Nat} {v : Value} {xs : List Value} (h : w.ownsRow base e size v n xs) (hb : base' ≤ base) : w.ownsRow base' e size v n xs := by
  refine ⟨h.1, ?_⟩
  rcases h.2 with h0 | ⟨g, cap, cur, e1, e2, e3⟩
  · exact .inl h0
  · exact .inr ⟨g, cap, cur, e1, by omega, e3⟩
end Go.Proofs.Ytfknakcjhlonoaa
