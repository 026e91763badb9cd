/-
  Lists of orders as they lie; what All computes. No condition but the slice's own reach.
-/
import Derived.Test.YtahlilogobfhcaaOrd10
namespace Go.Proofs.Ytahlilogobfhcaa
open Go.RowKit
set_option linter.unusedVariables false
set_option linter.unusedSimpArgs false

theorem own_kept {a b : World} {base : Nat} {e : TypeId} {size n : Nat} {v : Value} {xs : List Value} {E : Nat → Prop} (h : a.ownsRow base e size v n xs) (hk : Keep E a b) (hE : ∀ k, E k → k < base) : b.ownsRow base e size v n xs := by
  have hbd := own_bd h
  refine ⟨h.1, ?_⟩
  rcases h.2 with h0 | ⟨g, cap, cur, rfl, e2, e3, e4⟩
  · exact .inl h0
  · have hb := hbd g rfl
    exact .inr ⟨g, cap, cur, rfl, e2, (hk.block g hb.2 (fun e => by have := hE _ e; omega)).trans e3, e4⟩
/-- an order as it lies -/
structure OR where
  o : OpP
  Ap : Option Addr
  np : Nat
  cp : Nat
  At : Option Addr
  nt : Nat
  ct : Nat
def OR.cells (x : OR) : List Value := [.int .i64 x.o.kind, .int .i64 x.o.addr, .int .u8 x.o.code, .bool x.o.graph, .int .u8 x.o.fa, .slice x.Ap x.np x.cp, .slice x.At x.nt x.ct]
theorem OR.cells_len (x : OR) : x.cells.length = 7 := rfl
theorem ors_len (xs : List OR) : (xs.flatMap OR.cells).length = xs.length * 7 := flatMap_len OR.cells_len xs
structure OLs (B : Nat) (w : World) (A : Option Addr) (c : Nat) (xs : List OR) : Prop where
  own : w.ownsRow B 35 7 (.slice A xs.length c) xs.length (xs.flatMap OR.cells)
  le : xs.length ≤ c
  mx : c ≤ maxLen
  prs : ∀ x ∈ xs, Pr B w x.Ap x.np x.cp x.o.prs
  txs : ∀ x ∈ xs, Sl B w x.At x.nt x.ct x.o.tx
theorem other_block {w w' : World} {p : Addr} {cur : Array Value} {q : Nat × Nat} {e e1 : TypeId} {A2 : Option Addr} {n2 c2 k base : Nat} {ys : List Value} (h : w.heap[p.block]? = some (.cells cur e1 q)) (he : e ≠ e1) (ho : w.ownsRow base e k (.slice A2 n2 c2) n2 ys) (hg : w.grownBy w' (Value.slice A2 n2 c2).ownBlock) : w'.heap[p.block]? = w.heap[p.block]? :=
  hg.block _ (Array.getElem?_eq_some_iff.1 h).1 fun e1' => by
    rcases ho.2 with ⟨e3, _⟩ | ⟨g, cap, cur2, e3, _, e4, _⟩
    · rw [e3] at e1'; cases e1'
    · rw [e3] at e1'
      simp only [Value.ownBlock, Option.some.injEq] at e1'
      rw [e1', e4] at h
      injection h with h
      injection h with _ h _
      exact he h
theorem Sl.stay {B : Nat} {w w' : World} {A : Option Addr} {n c : Nat} {l : List Int} (h : Sl B w A n c l) (hz : w.heap.size ≤ w'.heap.size) (hb : ∀ p, A = some p → w'.heap[p.block]? = w.heap[p.block]?) : Sl B w' A n c l :=
  ⟨⟨h.rd.1, fun hn => by
      obtain ⟨b, off, e, hb', hc⟩ := h.rd.2 hn
      exact ⟨b, off, e, Nat.lt_of_lt_of_le hb' hz, fun j u hu => (World.cell?_of_block (show w'.heap[b]? = w.heap[b]? from hb _ e)).trans (hc j u hu)⟩⟩, h.cap, h.mx, h.at_, h.small, h.bytes, fun p hp => by rw [hb p hp]; exact h.tag p hp⟩
theorem Pr.stay {B : Nat} {w w' : World} {A : Option Addr} {n c : Nat} {L : List (Int × Int)} (h : Pr B w A n c L) (hz : w.heap.size ≤ w'.heap.size) (hb : ∀ p, A = some p → w'.heap[p.block]? = w.heap[p.block]?) : Pr B w' A n c L :=
  ⟨⟨h.rd.1, fun hn => by
      obtain ⟨b, off, e, hb', hc⟩ := h.rd.2 hn
      exact ⟨b, off, e, Nat.lt_of_lt_of_le hb' hz, fun j u hu => (World.cell?_of_block (show w'.heap[b]? = w.heap[b]? from hb _ e)).trans (hc j u hu)⟩⟩, h.cap, h.mx, h.at_, h.small, fun p hp => by rw [hb p hp]; exact h.tag p hp⟩
section
variable {B B' : Nat} {w w' : World} {A : Option Addr} {c : Nat} {xs : List OR}
theorem OLs.nil : OLs B w none 0 [] := ⟨World.ownsRow_nil _ _ _ _, by simp, by simp [maxLen], fun _ h => (by cases h), fun _ h => (by cases h)⟩
theorem OLs.up (h : OLs B w A c xs) (hu : Up w w') : OLs B w' A c xs := ⟨own_up h.own hu, h.le, h.mx, fun x hx => (h.prs x hx).up hu, fun x hx => (h.txs x hx).up hu⟩
theorem OLs.low (h : OLs B w A c xs) (hB : B' ≤ B) : OLs B' w A c xs := ⟨own_base h.own hB, h.le, h.mx, fun x hx => (h.prs x hx).low hB, fun x hx => (h.txs x hx).low hB⟩
theorem OLs.kept {E : Nat → Prop} (h : OLs B w A c xs) (hk : Keep E w w') (hE : ∀ k, E k → k < B) : OLs B w' A c xs :=
  ⟨own_kept h.own hk hE, h.le, h.mx, fun x hx => (h.prs x hx).past hk (fun p hp e => by have := (h.prs x hx).at_ p hp; have := hE _ e; omega), fun x hx => (h.txs x hx).past hk (fun p hp e => by have := (h.txs x hx).at_ p hp; have := hE _ e; omega)⟩
theorem ne_op8 : 35 ≠ 5 := by decide
theorem ne_opp : 35 ≠ 50 := by decide
theorem OLs.push (h : OLs B w A c xs) {A1 : Option Addr} {c1 : Nat} {x : OR} (hp : Pr B w x.Ap x.np x.cp x.o.prs) (ht : Sl B w x.At x.nt x.ct x.o.tx) (hg : w.grownBy w' (Value.slice A xs.length c).ownBlock)
    (ho : w'.ownsRow B 35 7 (.slice A1 (xs.length + 1) c1) (xs.length + 1) (xs.flatMap OR.cells ++ x.cells)) (hle : xs.length + 1 ≤ c1) (hmx : c1 ≤ maxLen) : OLs B w' A1 c1 (xs ++ [x]) := by
  have hl : (xs ++ [x]).length = xs.length + 1 := by simp
  have hpr : ∀ y : OR, Pr B w y.Ap y.np y.cp y.o.prs → Pr B w' y.Ap y.np y.cp y.o.prs := fun y hy => hy.stay hg.size (fun p hp => by
    obtain ⟨cur, q, e⟩ := hy.tag p hp
    exact other_block e ne_opp h.own hg)
  have htx : ∀ y : OR, Sl B w y.At y.nt y.ct y.o.tx → Sl B w' y.At y.nt y.ct y.o.tx := fun y hy => hy.stay hg.size (fun p hp => by
    obtain ⟨cur, q, e⟩ := hy.tag p hp
    exact other_block e ne_op8 h.own hg)
  refine ⟨?_, by rw [hl]; exact hle, hmx, fun y hy => ?_, fun y hy => ?_⟩
  · rw [hl, List.flatMap_append]
    simpa using ho
  · rcases List.mem_append.1 hy with hy | hy
    · exact hpr y (h.prs y hy)
    · rw [List.mem_singleton.1 hy]; exact hpr x hp
  · rcases List.mem_append.1 hy with hy | hy
    · exact htx y (h.txs y hy)
    · rw [List.mem_singleton.1 hy]; exact htx x ht
end
theorem one_short {l r : List Int} {o : OpP} (h : one l = some (o, r)) : r.length < l.length := by
  unfold one at h
  match l, h with
  | x :: q, h =>
    simp only at h
    have hd : ∀ k, (q.drop k).length ≤ q.length := fun k => by simp
    repeat' split at h
    all_goals first | cases h | skip
    all_goals first | (injection h with h; injection h with _ h; subst h) | skip
    all_goals first | (simp; done) | (simp; omega) | skip
    rename_i ho
    have : 0 < txtN (x :: q) := by unfold txtN; rw [ho]; simp
    simp
    omega
/-- all orders, what is left where one isn't, and whether nothing is -/
def allP : Nat → List Int → List OpP × List Int
  | 0, l => ([], l)
  | k + 1, l => match one l with
    | none => ([], l)
    | some (o, r) => (o :: (allP k r).1, (allP k r).2)
theorem allP_any {k m : Nat} {l : List Int} (hk : l.length ≤ k) (hm : l.length ≤ m) : allP k l = allP m l := by
  induction k generalizing l m with
  | zero =>
    have : l = [] := List.eq_nil_of_length_eq_zero (by omega)
    subst this
    cases m <;> rfl
  | succ k ih =>
    cases m with
    | zero =>
      have : l = [] := List.eq_nil_of_length_eq_zero (by omega)
      subst this
      rfl
    | succ m =>
      unfold allP
      cases h : one l with
      | none => rfl
      | some y =>
        obtain ⟨o, r⟩ := y
        have := one_short h
        simp only [ih (l := r) (m := m) (by omega) (by omega)]
def ordsOf (l : List Int) : List OpP × List Int := allP l.length l
theorem ords_none {l : List Int} (h : one l = none) : ordsOf l = ([], l) := by
  unfold ordsOf
  cases hl : l.length with
  | zero => rfl
  | succ k => unfold allP; rw [h]
theorem ords_some {l r : List Int} {o : OpP} (h : one l = some (o, r)) : ordsOf l = (o :: (ordsOf r).1, (ordsOf r).2) := by
  have hs := one_short h
  unfold ordsOf
  cases hl : l.length with
  | zero => omega
  | succ k =>
    show (match one l with | none => ([], l) | some (o, r) => (o :: (allP k r).1, (allP k r).2)) = _
    rw [h]
    simp only [allP_any (k := k) (m := r.length) (l := r) (by omega) (Nat.le_refl _)]
theorem info_op : (Try.prog.info? 35).map (fun i => (i.zero, i.size, i.bytes)) = some (some (.agg #[.int .i64 0, .int .i64 0, .int .u8 0, .bool false, .int .u8 0, .slice none 0 0, .slice none 0 0]), 7, 72) := by kernel_rfl
theorem keep_below {B : Nat} {w w' : World} (h : Below B w w') : Keep (fun k => B ≤ k) w w' := ⟨h.os, h.tape, h.output, h.size, fun i hi hn => h.block i (by omega)⟩
def sliceLen : Value → Nat
  | .slice _ n _ => n
  | _ => 0
set_option maxHeartbeats 6400000 in
theorem all_is {A : Option Addr} {n c : Nat} {l : List Int} {w : World} (h : Sl 0 w A n c l) :
    Calls Try.prog 11 #[.slice A n c] w fun e w' => ∃ A1 c1 xs x, e = .returned (.tuple #[.slice A1 xs.length c1, .int .i64 ((n : Int) - ((ordsOf l).2.length : Int)), .int .i64 x]) ∧ OLs w.heap.size w' A1 c1 xs ∧ xs.map OR.o = (ordsOf l).1 ∧ (x = 0 ↔ (ordsOf l).2 = []) ∧ Up w w' := by
  obtain ⟨i0, hi, hz0, hz1, hz2⟩ := info_parts info_op
  have hl := h.len
  have hsm := h.small
  have HL := Lib.hid h
  have HS0 := Lib.hid (show Sc (w.alloc (.cells #[.slice A n c, .int .i64 0] 47)) w.heap.size A n c l 0 from
    ⟨h.up ((Up.refl w).alloc _), fun p hp => h.lt hp, by simp [go_sem], by simp [go_sem], by simp [go_sem], by simp [go_sem]⟩)
  have HLN := Lib.hid hl
  clear h hl
  go_enter Try.func11, Try.ntmps11
  go_wp2_with fail
  go_loopw [5] (fun v wr => ∃ (xs : List OR) (A1 : Option Addr) (c1 : Nat) (l1 : List Int) (A2 : Option Addr) (n2 c2 : Nat), v = .slice A1 xs.length c1 ∧ Sc wr w.heap.size A2 n2 c2 l1 0 ∧ OLs (w.heap.size + 1) wr A1 c1 xs ∧ Up w wr ∧ ordsOf l = (xs.map OR.o ++ (ordsOf l1).1, (ordsOf l1).2) ∧ xs.length + l1.length ≤ n)
    (fun v _ => n - sliceLen v)
  case atStart => exact ⟨[], none, 0, l, A, n, c, rfl, HS0.out, OLs.nil, (Up.refl w).alloc _, by simp, by have := HLN.out; simp; omega⟩
  case round =>
    obtain ⟨xs, A1, c1, l1, A2, n2, c2, rfl, hsc, hol, hup, hords, hlen⟩ := hrel
    have HSC := Lib.hid hsc
    have HOL := Lib.hid hol
    have HUP := Lib.hid hup
    have HOR := Lib.hid hords
    have s0 := hsc.c0
    have zb := hsc.lt
    have hn2 := hsc.sl.len
    cases l1 with
    | nil =>
      obtain rfl : n2 = 0 := by simpa using hn2.symm
      have e2 : (ordsOf l).2 = [] := by rw [hords]; rfl
      have e1 : (ordsOf l).1 = xs.map OR.o := by rw [hords]; simp [ordsOf, allP]
      have HE := Lib.hid (And.intro e1 e2)
      clear hsc hol hup hords hn2 e1 e2
      go_wp2_with fail
      go_ret3
      refine ⟨A1, c1, xs, 0, ?_, HOL.out.low (by omega), HE.out.1.symm, ⟨fun _ => HE.out.2, fun _ => rfl⟩, HUP.out⟩
      rw [HE.out.2]
      simp
    | cons x q =>
      have hn2' : 0 < n2 := by simp at hn2; omega
      have hpos : (0 : Int) < (n2 : Int) := by omega
      have hx : xs.length < n := by simp at hlen; omega
      have HOP := Lib.hid (op_is HSC.out (by simp))
      have HN := Lib.hid (show n2 = (x :: q).length from hn2.symm)
      have HLE := Lib.hid hlen
      clear hsc hol hup hords hn2 hlen
      go_wp2_with fail
      refine HOP.out.mono ?_
      rintro e w3 hop
      cases h1 : one (x :: q) with
      | none =>
        rw [AnyOp.bad h1] at hop
        obtain ⟨k, a, cc, g, f, Ap, np, cp, At, nt, ct, A', n', c', l', e1, rfl, he, hs3, hk3⟩ := hop
        have hne : (e1 != 0) = true := by simpa using he
        have d1 := hs3.c1
        have zb3 := hs3.lt
        have hords := HOR.out
        rw [ords_none h1] at hords
        have HFIN := Lib.hid (show OLs w.heap.size w3 A1 c1 xs ∧ Up w w3 ∧ xs.map OR.o = (ordsOf l).1 ∧ (ordsOf l).2 = x :: q from
          ⟨(HOL.out.kept hk3 (fun k e => by subst e; omega)).low (by omega), HUP.out.keep hk3 (fun k e => by subst e; omega), by rw [hords]; simp, by rw [hords]⟩)
        have HNE := Lib.hid he
        have hb1 : (0 : Int) ≤ (n : Int) - (n2 : Int) := by have := HN.out; have := HLE.out; omega
        clear hs3 hk3 h1 he hords s0
        go_wp2_with fail
        go_region
        go_wp2_with fail
        go_ret3
        refine ⟨A1, c1, xs, e1, ?_, HFIN.out.1.up (by (repeat (first | with_reducible exact Up.refl _ | with_reducible refine Up.alloc ?_ _ | with_reducible refine Up.drew ?_ | with_reducible refine Up.drewN ?_ _ | with_reducible refine Up.setCell ?_ (by (try simp) <;> omega) _ | with_reducible assumption | with_reducible refine Up.trans ?_ (by assumption)))), HFIN.out.2.2.1, ⟨fun e => absurd e HNE.out, fun e => ?_⟩, ?_⟩
        · rw [HFIN.out.2.2.2, ← HN.out]; rfl
        · rw [HFIN.out.2.2.2] at e; cases e
        · have hu := HFIN.out.2.1
          (repeat (first | with_reducible exact Up.refl _ | with_reducible refine Up.alloc ?_ _ | with_reducible refine Up.drew ?_ | with_reducible refine Up.drewN ?_ _ | with_reducible refine Up.setCell ?_ (by (try simp) <;> omega) _ | with_reducible assumption | with_reducible refine Up.trans ?_ (by assumption)))
      | some y =>
        obtain ⟨o, r⟩ := y
        rw [AnyOp.good h1] at hop
        have hsh := one_short h1
        have hords := HOR.out
        rw [ords_some h1] at hords
        obtain ⟨Ap, np, cp, At, nt, ct, rfl, hpr, htx, ⟨A3, n3, c3, hs3⟩, hk3⟩ := hop
        have d1 := hs3.c1
        have zb3 := hs3.lt
        have HS3 := Lib.hid hs3
        have HOL3 := Lib.hid (HOL.out.kept hk3 (fun k e => by subst e; omega))
        have HUP3 := Lib.hid (HUP.out.keep hk3 (fun k e => by subst e; omega))
        have HP3 := Lib.hid (hpr.low (show w.heap.size + 1 ≤ wr.heap.size by omega))
        have HT3 := Lib.hid (htx.low (show w.heap.size + 1 ≤ wr.heap.size by omega))
        have HOR3 := Lib.hid (show ordsOf l = ((xs.map OR.o ++ [o]) ++ (ordsOf r).1, (ordsOf r).2) by rw [hords]; simp)
        have HLE3 := Lib.hid (show xs.length + 1 + r.length ≤ n by have := HLE.out; simp at hsh this; omega)
        have hm1 : xs.length + 1 ≤ maxLen := by simp [maxLen]; omega
        clear hs3 hk3 h1 hpr htx hords s0 hsh
        obtain ⟨ok, oa, oc, og, of, op, ot⟩ := o
        simp only at HP3 HT3
        go_wp2_with (at_builtin; refine wpList_app _ rfl (.tmp 39) (.tmp 41) 29 rfl (w.heap.size + 1) 35 i0 _ 7 72 Try.underlying29 hi hz0 hz1 hz2 rfl (by decide) A1 xs.length c1 _ rfl (own_up HOL3.out.own (((Up.refl _).alloc _).alloc _)) _ _ 1 1 _ rfl (reads_at _ _ 7 1 _ _ rfl (by simp)) (by simp [Value.oneCell']) hm1 (by omega) (by simp; omega) ?_; intro A4 c4 w4 hown4 hg4 hle4 hmx4 hbl4)
        have hal := ((Up.refl w3).alloc (.cells #[.int .i64 ok, .int .i64 oa, .int .u8 oc, .bool og, .int .u8 of, .slice Ap np cp, .slice At nt ct] 35)).alloc (.cells #[.int .i64 ok, .int .i64 oa, .int .u8 oc, .bool og, .int .u8 of, .slice Ap np cp, .slice At nt ct] 35)
        refine ⟨⟨xs ++ [⟨⟨ok, oa, oc, og, of, op, ot⟩, Ap, np, cp, At, nt, ct⟩], A4, c4, r, A3, n3, c3, by simp, (HS3.out.up hal).far (keep_below hbl4) (fun k e => by omega), ?_, (HUP3.out.trans hal).past (hbl4.mono (by omega)), ?_, ?_⟩, ?_⟩
        · exact (HOL3.out.up hal).push (x := ⟨⟨ok, oa, oc, og, of, op, ot⟩, Ap, np, cp, At, nt, ct⟩) (HP3.out.up hal) (HT3.out.up hal) hg4 hown4 hle4 hmx4
        · rw [HOR3.out]; simp
        · have := HLE3.out; simp; omega
        · simp [sliceLen]; omega
end Go.Proofs.Ytahlilogobfhcaa
