/-
  slices.Equal over ints; addr's Span as a value; the law's span. No condition.
-/
import Derived.Test.YtejnblncnpfkaaaSpanIt
import Derived.Test.YtejnblncnpfkaaaRSpan
import Derived.Shelf.Abstract
namespace Go.Proofs.Ytejnblncnpfkaaa
open Go.RowKit Go.Shelf
set_option linter.unusedVariables false
set_option linter.unusedSimpArgs false
attribute [local go_sem] Oper.semAt_some

section
variable {P : Program} {w : World}
theorem wpListIn_app {lb nn : Nat} {ops : Array Oper} {rest : List Oper} {o : Oper} {a : Act} {Q : Exit → Act → World → Prop} (hgd : o.guard = none) (s x : Operand) (t : TypeId)
    (ho : o.op = .call { callee := .builtin .append, args := #[s, x], argTypes := #[t, t] })
    (base : Nat) (e : TypeId) (i : TypeInfo) (z : Value) (size bytes : Nat) (ht : P.underlying t = some (.slice e)) (hi : P.info? e = some i) (hz : i.zero = some z)
    (hsize : i.size = size) (hby : i.bytes = bytes) (hzs : z.cells.size = size) (hsz : 0 < size)
    (A : Option Addr) (n c : Nat) (xs : List Value) (hs : a.eval s = .slice A n c) (hown : w.ownsRow base e size (.slice A n c) n xs)
    (B : Nat) (Ax : Option Addr) (m cx : Nat) (news : List Value) (hx : a.eval x = .slice Ax m cx) (hr : Reads w B size Ax m news) (h1 : ∀ u ∈ news, u.oneCell' = true)
    (h63 : n + m ≤ maxLen) (hbytes : (n + m) * bytes ≤ 140737488355328) (hbase : base ≤ w.heap.size)
    (h : ∀ A' c' w', w'.ownsRow base e size (.slice A' (n + m) c') (n + m) (xs ++ news) → w.grownBy w' (Value.slice A n c).ownBlock → n + m ≤ c' → c' ≤ maxLen → Below base w w' →
      wpListIn (Fence.wide.inRound lb) nn P ops Q rest (a.put o.dst (.slice A' (n + m) c')) w') : wpListIn (Fence.wide.inRound lb) nn P ops Q (o :: rest) a w := by
  have hw : Region.wanted o (yielded ops a.tmps) = true := by simp [Region.wanted, hgd]
  unfold wpListIn
  rw [if_pos hw]
  obtain ⟨A', c', w', hr', h2, h3, h4, h5, h6⟩ := run_app (P := P) w base t o.type e i z size bytes ht hi hz hsize hby hzs hsz A n c xs hown B Ax m cx news hr h1 h63 hbytes hbase
  refine oper_in (fun cc => by rw [ho]; simp) ?_
  unfold Oper.wp execOp
  simp only [ho, resolve, invoke, builtin, Sem.run_bind, Sem.run_pure, Result.andThen_ok, List.map_toArray, List.map_cons, List.map_nil, hs, hx, hr']
  exact h A' c' w' h2 h3 h4 h5 h6
end
theorem cell_off {W : World} {b b' : Nat} (h : b' ≠ b) (o o' : Nat) (v : Value) : (W.setCell ⟨b, o, none⟩ v).cell? ⟨b', o', none⟩ = W.cell? ⟨b', o', none⟩ := World.cell?_of_block (Below.heap_setCell W ⟨b, o, none⟩ v b' h)
theorem ns_at (l : List Int) (i : Nat) (h : i < l.length) : (ns l)[i]? = some (.int .i64 (l.getD i 0)) := by simp [ns, List.getElem?_map, List.getElem?_eq_getElem h, List.getD]
theorem reads_ns {w : World} {B n : Nat} {b off : Nat} {l : List Int} (h : Reads w B 1 (some ⟨b, off, none⟩) n (ns l)) (i : Nat) (hi : i < n) : w.cell? ⟨b, off + i, none⟩ = some (.int .i64 (l.getD i 0)) ∧ b < B := by
  have hl : l.length = n := by have := h.1; rw [ns_len] at this; omega
  obtain ⟨b', off', e, hb, hc⟩ := h.2 (by omega)
  injection e with e
  injection e with e1 e2 _
  subst e1; subst e2
  exact ⟨hc _ _ (ns_at l i (by omega)), hb⟩
theorem int_ext {L L' : List Int} (hl : L.length = L'.length) (h : ∀ t, t < L.length → L.getD t 0 = L'.getD t 0) : L = L' := by
  refine List.ext_getElem hl fun t h1 h2 => ?_
  have := h t h1
  simpa [List.getD, List.getElem?_eq_getElem h1, List.getElem?_eq_getElem h2] using this
set_option maxHeartbeats 800000 in
theorem equal_i (A A' : Option Addr) (n n' c c' : Nat) (L L' : List Int) (w : World) (hr : Reads w w.heap.size 1 A n (ns L)) (hr' : Reads w w.heap.size 1 A' n' (ns L')) (hn : n ≤ 65536) (hn' : n' ≤ 65536) :
    Calls Try.prog 36 #[.slice A n c, .slice A' n' c'] w fun e w' => e = .returned (.bool (decide (L = L'))) ∧ Up w w' := by
  have hl : L.length = n := by have := hr.1; rw [ns_len] at this; omega
  have hl' : L'.length = n' := by have := hr'.1; rw [ns_len] at this; omega
  by_cases hne : n = n'
  · subst hne
    go_enter Try.func36, Try.ntmps36
    go_wp2
    go_loopw [13] (fun i wr => ∃ j : Nat, j ≤ n ∧ i = .int .i64 (j : Int) ∧ Up w wr ∧ ∀ t, t < j → L.getD t 0 = L'.getD t 0) (fun i _ => n - (intOf i).toNat)
    case atStart => exact ⟨0, by omega, rfl, Up.refl _, by omega⟩
    case round =>
      obtain ⟨j, hj, rfl, hup, heq⟩ := hrel
      by_cases hlt : j < n
      · obtain ⟨b, off, rfl, hb⟩ := hr.form (by omega)
        obtain ⟨b', off', rfl, hb'⟩ := hr'.form (by omega)
        obtain ⟨ca, _⟩ := reads_ns (hr.below hup) j hlt
        obtain ⟨ca', _⟩ := reads_ns (hr'.below hup) j hlt
        have q1 : (j : Int) < (n : Int) := by omega
        have HE := Lib.hid heq
        clear heq
        generalize hx : L.getD j 0 = p at *
        generalize hy : L'.getD j 0 = p' at *
        have HX := Lib.hid hx
        have HY := Lib.hid hy
        clear hx hy
        by_cases d1 : p = p'
        · subst d1
          go_wp2
          go_quiet (fail)
          go_wp2
          go_roundw
          case rel =>
            refine ⟨j + 1, by omega, by go_num, hup.drewN _, fun t ht => ?_⟩
            rcases Nat.lt_or_ge t j with h | h
            · exact HE.out t h
            · obtain rfl : t = j := by omega
              rw [HX.out, HY.out]
          case measure => simp [intOf]; omega
        · have b1 : (p != p') = true := by simpa using d1
          have HN := Lib.hid (show L ≠ L' from fun e => by have h1 := HX.out; have h2 := HY.out; rw [e] at h1; exact d1 (h1.symm.trans h2))
          clear d1
          go_wp2
          go_quiet (fail)
          go_wp2
          go_ret
          exact ⟨ret_bool (by simp [HN.out]), hup.drewN _⟩
      · obtain rfl : j = n := by omega
        have hall : L = L' := int_ext (by omega) (by intro t ht; exact heq t (by omega))
        have HE := Lib.hid hall
        clear hall heq
        go_wp2
        go_ret
        exact ⟨ret_bool (by simp [HE.out]), hup⟩
  · have hd : ((n : Int) == (n' : Int)) = false := by simp; omega
    have hd2 : ((n : Int) != (n' : Int)) = true := by simp; omega
    go_enter Try.func36, Try.ntmps36
    go_wp2
    go_ret
    refine ⟨ret_bool ?_, Up.refl _⟩
    have : L ≠ L' := fun e => hne (by rw [← hl, ← hl', e])
    simp [this]
theorem enters_span : ∀ args w, (callFunc 47 args).run Try.prog w = .ok (.enter 47 args) w := enters_of Try.func47 (by kernel_rfl) rfl
/-- the value that Span is, as it lies -/
def SpanAt (r c f t : Int) (lo : Nat) (v : Value) (W : World) : Prop := ∃ b1 b2 b3, v = .func (.func 47) #[] #[.pointer (some ⟨b1, 0, none⟩), .pointer (some ⟨b2, 0, none⟩), .pointer (some ⟨b3, 0, none⟩)] ∧
  (lo ≤ b1 ∧ lo ≤ b2 ∧ lo ≤ b3) ∧ (b1 < W.heap.size ∧ b2 < W.heap.size ∧ b3 < W.heap.size) ∧ W.cell? ⟨b1, 0, none⟩ = some (.int .i64 r) ∧ W.cell? ⟨b1, 1, none⟩ = some (.int .i64 c) ∧ W.cell? ⟨b2, 0, none⟩ = some (.int .i64 f) ∧ W.cell? ⟨b3, 0, none⟩ = some (.int .i64 t)
theorem spanAt_up (r c f t : Int) (lo : Nat) (v : Value) (W W' : World) (h : SpanAt r c f t lo v W) (hu : Up W W') : SpanAt r c f t lo v W' := by
  obtain ⟨b1, b2, b3, rfl, hlo, ⟨z1, z2, z3⟩, h1, h2, h3, h4⟩ := h
  have := hu.size
  exact ⟨b1, b2, b3, rfl, hlo, by omega, ((hu.at_ b1 z1).1 0).trans h1, ((hu.at_ b1 z1).1 1).trans h2, ((hu.at_ b2 z2).1 0).trans h3, ((hu.at_ b3 z3).1 0).trans h4⟩
set_option maxHeartbeats 800000 in
theorem span_val (r c f t : Int) (w : World) :
    Calls Try.prog 38 #[.agg #[.int .i64 r, .int .i64 c], .int .i64 f, .int .i64 t] w fun e w' => ∃ v, e = .returned v ∧ SpanAt r c f t w.heap.size v w' ∧ Up w w' := by
  go_enter Try.func38, Try.ntmps38
  go_wp2
  go_ret
  refine ⟨_, rfl, ⟨w.heap.size, w.heap.size + 1, w.heap.size + 1 + 1, rfl, by omega, by (try simp) <;> omega, ?_, ?_, ?_, ?_⟩, by (repeat (first | with_reducible exact Up.refl _ | with_reducible refine Up.alloc ?_ _ | with_reducible refine Up.drew ?_ | with_reducible refine Up.drewN ?_ _ | with_reducible refine Up.setCell ?_ (by (try simp) <;> omega) _ | with_reducible assumption | with_reducible refine Up.trans ?_ (by assumption)))⟩ <;> go_simp
/-- what is told of a size, valid or not -/
structure SpanOf (r c f t m a : Int) (n : Nat) : Prop where
  hn : n ≤ 65536
  a0 : 0 ≤ a
  a1 : a ≤ 65536
  len : ∀ W, Calls Try.prog 39 #[.agg #[.int .i64 r, .int .i64 c], .int .i64 f, .int .i64 t] W fun e W' => e = .returned (.int .i64 (n : Int)) ∧ Up W W'
  w1 : 0 < n → ∀ W, Calls Try.prog 14 #[.agg #[.int .i64 r, .int .i64 c], .int .i64 f] W fun e W' => e = .returned (.int .i64 a) ∧ Up W W'
  w2 : 0 < n → ∀ (j : Nat) W, Calls Try.prog 14 #[.agg #[.int .i64 r, .int .i64 c], .int .i64 (a + (j : Int))] W fun e W' => e = .returned (.int .i64 ((a + (j : Int)) % m)) ∧ Up W W'
theorem SpanOf.it {r c f t m a : Int} {n b1 b2 b3 : Nat} {w : World} (h : SpanOf r c f t m a n) (z : b1 < w.heap.size ∧ b2 < w.heap.size ∧ b3 < w.heap.size)
    (c0 : w.cell? ⟨b1, 0, none⟩ = some (.int .i64 r)) (c1 : w.cell? ⟨b1, 1, none⟩ = some (.int .i64 c)) (c2 : w.cell? ⟨b2, 0, none⟩ = some (.int .i64 f)) (c3 : w.cell? ⟨b3, 0, none⟩ = some (.int .i64 t)) :
    ItFor Try.prog 47 #[.pointer (some ⟨b1, 0, none⟩), .pointer (some ⟨b2, 0, none⟩), .pointer (some ⟨b3, 0, none⟩)] (fun x : Int => #[.int .i64 x]) (fun _ => False) (fun k => k = b1 ∨ k = b2 ∨ k = b3) (fun pre x _ => pre ++ [x] <+: placesN a m n) (· = placesN a m n) (· <+: placesN a m n) w :=
  span_it (fun k hk => by rcases hk with rfl | rfl | rfl <;> omega) c0 c1 c2 c3 (.inl rfl) (.inr (.inl rfl)) (.inr (.inr rfl)) h.hn h.a0 h.a1 h.len h.w1 h.w2
end Go.Proofs.Ytejnblncnpfkaaa
