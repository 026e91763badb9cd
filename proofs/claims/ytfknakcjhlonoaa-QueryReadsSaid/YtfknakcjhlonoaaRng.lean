/-
  What the ranges over sfield's Fields have in common. No condition but the slice's own reach.
-/
import Derived.Test.YtfknakcjhlonoaaFL
import Derived.Test.YtfknakcjhlonoaaIterF
import Derived.Shelf.Abstract
namespace Go.Proofs.Ytfknakcjhlonoaa
open Go.RowKit Go.Shelf
set_option linter.unusedVariables false
set_option linter.unusedSimpArgs false
attribute [local go_sem] Oper.semAt_some

section
variable {P : Program} {w : World}
theorem wpListIn_app {lb nn : Nat} {ops : Array Oper} {rest : List Oper} {o : Oper} {a : Act} {Q : Exit → Act → World → Prop} (hgd : o.guard = none) (s x : Operand) (t : TypeId)
    (ho : o.op = .call { callee := .builtin .append, args := #[s, x], argTypes := #[t, t] })
    (base : Nat) (e : TypeId) (i : TypeInfo) (z : Value) (size bytes : Nat) (ht : P.underlying t = some (.slice e)) (hi : P.info? e = some i) (hz : i.zero = some z)
    (hsize : i.size = size) (hby : i.bytes = bytes) (hzs : z.cells.size = size) (hsz : 0 < size)
    (A : Option Addr) (n c : Nat) (xs : List Value) (hs : a.eval s = .slice A n c) (hown : w.ownsRow base e size (.slice A n c) n xs)
    (B : Nat) (Ax : Option Addr) (m cx : Nat) (news : List Value) (hx : a.eval x = .slice Ax m cx) (hr : Reads w B size Ax m news) (h1 : ∀ u ∈ news, u.oneCell' = true)
    (h63 : n + m ≤ maxLen) (hbytes : (n + m) * bytes ≤ 140737488355328) (hbase : base ≤ w.heap.size)
    (h : ∀ A' c' w', w'.ownsRow base e size (.slice A' (n + m) c') (n + m) (xs ++ news) → w.grownBy w' (Value.slice A n c).ownBlock → n + m ≤ c' → c' ≤ maxLen → Below base w w' →
      wpListIn (Fence.wide.inRound lb) nn P ops Q rest (a.put o.dst (.slice A' (n + m) c')) w') : wpListIn (Fence.wide.inRound lb) nn P ops Q (o :: rest) a w := by
  have hw : Region.wanted o (yielded ops a.tmps) = true := by simp [Region.wanted, hgd]
  unfold wpListIn
  rw [if_pos hw]
  obtain ⟨A', c', w', hr', h2, h3, h4, h5, h6⟩ := run_app (P := P) w base t o.type e i z size bytes ht hi hz hsize hby hzs hsz A n c xs hown B Ax m cx news hr h1 h63 hbytes hbase
  refine oper_in (fun cc => by rw [ho]; simp) ?_
  unfold Oper.wp execOp
  simp only [ho, resolve, invoke, builtin, Sem.run_bind, Sem.run_pure, Result.andThen_ok, List.map_toArray, List.map_cons, List.map_nil, hs, hx, hr']
  exact h A' c' w' h2 h3 h4 h5 h6
end
theorem cell_off {W : World} {b b' : Nat} (h : b' ≠ b) (o o' : Nat) (v : Value) : (W.setCell ⟨b, o, none⟩ v).cell? ⟨b', o', none⟩ = W.cell? ⟨b', o', none⟩ := World.cell?_of_block (Below.heap_setCell W ⟨b, o, none⟩ v b' h)
theorem frozen_off {W : World} {b b' : Nat} (h : b' ≠ b) (o o' : Nat) (v : Value) : (W.setCell ⟨b, o, none⟩ v).frozen? ⟨b', o', none⟩ = W.frozen? ⟨b', o', none⟩ := World.frozen?_of_block (Below.heap_setCell W ⟨b, o, none⟩ v b' h)
/-- one more: the box, and what the round keeps -/
theorem OutI.push {α : Type} {e : TypeId} {k : Nat} {cells : α → List Value} {inn : α → List Inn} {B o : Nat} {rs : List Nat} {w W w4 : World} {pre : List α} {x : α} {A1 A2 : Option Addr} {c1 c2 : Nat} {cs : Array Value} {tt : TypeId} {E : Nat → Prop} {v : Value}
    (hu : Up w W) (hB : B ≤ W.heap.size) (hrs : ∀ r ∈ rs, (∃ v, W.cell? ⟨r, 0, none⟩ = some v) ∧ W.frozen? ⟨r, 0, none⟩ = false) (hfl : FL e k cells inn B W A1 c1 pre) (ho : o < B) (hwo : w.heap.size ≤ o) (hr : ∀ r ∈ rs, r < B ∧ r ≠ o) (hE : E o)
    (h4 : W.cell? ⟨o, 0, none⟩ = some v) (h5 : W.frozen? ⟨o, 0, none⟩ = false) (he : e ≠ 5) (hx : ∀ s ∈ inn x, Sl B W s.1 s.2.2.length s.2.1 s.2.2)
    (hg : (W.alloc (.cells cs tt)).grownBy w4 (Value.slice A1 pre.length c1).ownBlock) (hown : w4.ownsRow B e k (.slice A2 (pre.length + 1) c2) (pre.length + 1) (pre.flatMap cells ++ cells x)) (hle : pre.length + 1 ≤ c2) (hmx : c2 ≤ maxLen) (hbl : Below B (W.alloc (.cells cs tt)) w4) :
    OutI e k cells inn w B o rs (pre ++ [x]) (w4.setCell ⟨o, 0, none⟩ (.slice A2 (pre.length + 1) c2)) ∧ KpR B B E W (w4.setCell ⟨o, 0, none⟩ (.slice A2 (pre.length + 1) c2)) := by
  have hal := (Up.refl W).alloc (.cells cs tt)
  have hne : ∀ j, j < B → (Value.slice A1 pre.length c1).ownBlock ≠ some j := fun j hj e => by have := own_bd hfl.own _ e; omega
  have hg0 : ∀ j, j < B → (∀ i, w4.cell? ⟨j, i, none⟩ = W.cell? ⟨j, i, none⟩) ∧ (∀ i, w4.frozen? ⟨j, i, none⟩ = W.frozen? ⟨j, i, none⟩) := fun j hj => by
    obtain ⟨a, b⟩ := grown_at hg j (by simp; omega) (hne j hj)
    obtain ⟨a', b'⟩ := hal.at_ j (by omega)
    exact ⟨fun i => (a i).trans (a' i), fun i => (b i).trans (b' i)⟩
  have hl : (pre ++ [x]).length = pre.length + 1 := by simp
  have c4 : w4.cell? ⟨o, 0, none⟩ = some v := ((hg0 o ho).1 0).trans h4
  refine ⟨⟨Up.setCell (p := ⟨o, 0, none⟩) (((hu.alloc _)).past (hbl.mono (by omega))) hwo _, ?_, fun r hr' => ?_, A2, c2, ?_, ?_, ?_⟩, ?_⟩
  · have := hg.size
    simp at this
    simp [World.setCell]
    omega
  · obtain ⟨⟨u, hv⟩, hf⟩ := hrs r hr'
    obtain ⟨r1, r2⟩ := hr r hr'
    exact ⟨⟨u, by rw [cell_off r2, (hg0 r r1).1]; exact hv⟩, by rw [frozen_off r2, (hg0 r r1).2]; exact hf⟩
  · rw [hl]; exact World.cell?_setCell_same (h := c4) ..
  · rw [World.frozen?_setCell, (hg0 o ho).2]; exact h5
  · exact ((hfl.up hal).push he (fun s hs => (hx s hs).up hal) hg hown hle hmx).set ho _
  · exact ((KpR.of_up hal hB).trans (KpR.grown hg (by simp; omega) (own_cells (own_up hfl.own hal)))).trans (KpR.setCell (.inl hE) c4)
theorem OutI.push2 {α : Type} {e : TypeId} {k : Nat} {cells : α → List Value} {inn : α → List Inn} {B o : Nat} {rs : List Nat} {w W0 W w4 : World} {pre : List α} {x : α} {A1 A2 : Option Addr} {c1 c2 : Nat} {cs : Array Value} {tt : TypeId} {E : Nat → Prop} {v : Value}
    (hU : Up W0 W) (hu : Up w W0) (hB : B ≤ W0.heap.size) (hrs : ∀ r ∈ rs, (∃ v, W0.cell? ⟨r, 0, none⟩ = some v) ∧ W0.frozen? ⟨r, 0, none⟩ = false) (hfl : FL e k cells inn B W0 A1 c1 pre) (ho : o < B) (hwo : w.heap.size ≤ o) (hr : ∀ r ∈ rs, r < B ∧ r ≠ o) (hE : E o)
    (h4 : W0.cell? ⟨o, 0, none⟩ = some v) (h5 : W0.frozen? ⟨o, 0, none⟩ = false) (he : e ≠ 5) (hx : ∀ s ∈ inn x, Sl B W s.1 s.2.2.length s.2.1 s.2.2)
    (hg : (W.alloc (.cells cs tt)).grownBy w4 (Value.slice A1 pre.length c1).ownBlock) (hown : w4.ownsRow B e k (.slice A2 (pre.length + 1) c2) (pre.length + 1) (pre.flatMap cells ++ cells x)) (hle : pre.length + 1 ≤ c2) (hmx : c2 ≤ maxLen) (hbl : Below B (W.alloc (.cells cs tt)) w4) :
    OutI e k cells inn w B o rs (pre ++ [x]) (w4.setCell ⟨o, 0, none⟩ (.slice A2 (pre.length + 1) c2)) ∧ KpR B B E W0 (w4.setCell ⟨o, 0, none⟩ (.slice A2 (pre.length + 1) c2)) := by
  have h := OutI.push (hu.trans hU) (Nat.le_trans hB hU.size) (fun r hr' => by
    obtain ⟨⟨u, hv⟩, hf⟩ := hrs r hr'
    have z := hU.at_ r (cell_lt hv)
    exact ⟨⟨u, (z.1 0).trans hv⟩, (z.2 0).trans hf⟩) (hfl.up hU) ho hwo hr hE (((hU.at_ o (cell_lt h4)).1 0).trans h4) (((hU.at_ o (cell_lt h4)).2 0).trans h5) he hx hg hown hle hmx hbl
  exact ⟨h.1, (KpR.of_up hU hB).trans h.2⟩
def EF.cells (x : EF) : List Value := [.int .u8 x.id, .slice x.A x.l.length x.c]
def EF.inn (x : EF) : List Inn := [(x.A, x.c, x.l)]
def EF.bare (x : EF) : Int × List Int := (x.id, x.l)
theorem info_sf : (Try.prog.info? 91).map (fun i => (i.zero, i.size, i.bytes)) = some (some (.agg #[.int .u8 0, .slice none 0 0]), 2, 32) := by kernel_rfl
theorem ne_sf : 91 ≠ 5 := by decide
theorem pl_bare (xs : List EF) : (xs.map EF.pl).map bare = xs.map EF.bare := by simp [List.map_map, Function.comp_def, EF.pl, EF.bare, bare]
theorem enters_fields : ∀ args w, (callFunc 40 args).run Try.prog w = .ok (.enter 40 args) w := enters_of Try.func40 (by kernel_rfl) rfl
set_option maxHeartbeats 800000 in
theorem fields_fn (A : Option Addr) (n c : Nat) (w : World) :
    Calls Try.prog 33 #[.slice A n c] w fun e w' => ∃ bp, e = .returned (.func (.func 40) #[] #[.pointer (some ⟨bp, 0, none⟩)]) ∧ w.heap.size ≤ bp ∧ bp < w'.heap.size ∧ w'.cell? ⟨bp, 0, none⟩ = some (.slice A n c) ∧ w'.frozen? ⟨bp, 0, none⟩ = false ∧ Up w w' := by
  go_enter Try.func33, Try.ntmps33
  go_wp2
  go_ret
  exact ⟨w.heap.size, rfl, Nat.le_refl _, by simp, by simp, by simp, by (repeat (first | with_reducible exact Up.refl _ | with_reducible refine Up.alloc ?_ _ | with_reducible refine Up.drew ?_ | with_reducible refine Up.drewN ?_ _ | with_reducible refine Up.setCell ?_ (by (try simp) <;> omega) _ | with_reducible assumption | with_reducible refine Up.trans ?_ (by assumption)))⟩
/-- what has come of a list of items: all without error -/
def clean (xs : List EF) : Prop := ∀ x ∈ xs, x.e = 0
theorem clean_pl {xs : List EF} (h : clean xs) : ∀ y ∈ xs.map EF.pl, y.2.2 = 0 := by
  intro y hy
  obtain ⟨x, hx, rfl⟩ := List.mem_map.1 hy
  exact h x hx
theorem flds_all {l : List Int} {xs : List EF} (h : xs.map EF.pl = items l) (hc : clean xs) : fldsOf l = (xs.map EF.bare, 0) := by
  unfold fldsOf
  rw [← h, upTo_all (clean_pl hc), pl_bare]
theorem flds_stop {l : List Int} {pre : List EF} {x : EF} (h : (pre ++ [x]).map EF.pl <+: items l) (hc : clean pre) (hx : x.e ≠ 0) : fldsOf l = (pre.map EF.bare, x.e) := by
  unfold fldsOf
  rw [List.map_append] at h
  rw [upTo_stop (clean_pl hc) hx h, pl_bare]
  rfl
def AllAx (w3 : World) (l : List Int) (tm : Value → EF → Array Value) (pre : List EF) (x : EF) (a' : Act) (W : World) : Prop :=
  Sl w3.heap.size W x.A x.l.length x.c x.l ∧ (pre ++ [x]).map EF.pl <+: items l ∧ ∃ blk, w3.heap.size ≤ blk ∧ W.cell? ⟨blk, 0, none⟩ = some (.int .u8 x.id) ∧ W.cell? ⟨blk, 1, none⟩ = some (.slice x.A x.l.length x.c) ∧ a' = { tmps := tm (.pointer (some ⟨blk, 0, none⟩)) x, defers := [] }
theorem AllAx.calm {w3 : World} {l : List Int} {tm : Value → EF → Array Value} {pre : List EF} {x : EF} {a' : Act} {W W' : World} {T : Nat → Prop} (h : AllAx w3 l tm pre x a' W) (hc : Calm w3.heap.size T W W') (hT : ∀ k, T k → k < w3.heap.size) : AllAx w3 l tm pre x a' W' := by
  obtain ⟨h1, h2, blk, h3, h4, h5, h6⟩ := h
  exact ⟨h1.calm hc hT, h2, blk, h3, hc.cell h4 (fun t => by have := hT _ t; omega), hc.cell h5 (fun t => by have := hT _ t; omega), h6⟩

def EF.rf (x : EF) : RF := ⟨x.id, x.A, x.c, x.l⟩
theorem FL.rf {e : TypeId} {B : Nat} {w : World} {A : Option Addr} {c : Nat} {xs : List EF} (h : FL e 2 EF.cells EF.inn B w A c xs) : FL e 2 RF.cells RF.inn B w A c (xs.map EF.rf) := by
  refine ⟨?_, by simpa using h.le, h.mx, fun x hx s hs => ?_⟩
  · have := h.own
    rw [List.length_map, List.flatMap_map]
    exact this
  · obtain ⟨y, hy, rfl⟩ := List.mem_map.1 hx
    exact h.good y hy s hs
theorem bare_rf (xs : List EF) : (xs.map EF.rf).map RF.bare = xs.map EF.bare := by simp [List.map_map, Function.comp_def, EF.rf, EF.bare, RF.bare]
/-- the first ones, at most so many -/
def fldsM (l : List Int) (most : Nat) : List (Int × List Int) × Int := if most ≤ (fldsOf l).1.length then ((fldsOf l).1.take most, 0) else fldsOf l
theorem fldsM_all {l : List Int} {xs : List EF} {most : Nat} (h : xs.map EF.pl = items l) (hc : clean xs) (hm : xs.length < most) : fldsM l most = (xs.map EF.bare, 0) := by
  unfold fldsM
  rw [flds_all h hc, if_neg (by simp; omega)]
theorem fldsM_stop {l : List Int} {pre : List EF} {x : EF} {most : Nat} (h : (pre ++ [x]).map EF.pl <+: items l) (hc : clean pre) (hx : x.e ≠ 0) (hm : pre.length < most) : fldsM l most = (pre.map EF.bare, x.e) := by
  unfold fldsM
  rw [flds_stop h hc hx, if_neg (by simp; omega)]
theorem fldsM_few {l : List Int} {xs : List EF} {most : Nat} (h : xs.map EF.pl <+: items l) (hc : clean xs) (hm : xs.length = most) : fldsM l most = (xs.map EF.bare, 0) := by
  have hp := upTo_pre (clean_pl hc) h
  rw [pl_bare] at hp
  have hle := hp.length_le
  rw [List.length_map, hm] at hle
  unfold fldsM fldsOf
  rw [if_pos hle]
  have := List.prefix_iff_eq_take.1 hp
  rw [List.length_map, hm] at this
  rw [this]
end Go.Proofs.Ytfknakcjhlonoaa
