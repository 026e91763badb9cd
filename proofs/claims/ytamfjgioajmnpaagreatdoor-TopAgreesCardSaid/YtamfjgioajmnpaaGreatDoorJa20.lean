/-
write.Orders where each order can be done. Conditions: few bytes, that lie apart from the screen; each order's own contract.
-/
import Derived.Test.YtamfjgioajmnpaaGreatDoorJa18
import Derived.Test.YtamfjgioajmnpaaGreatDoorJa19
namespace Go.Proofs.YtamfjgioajmnpaaGreatDoor
open Go.RowKit
set_option linter.unusedVariables false
set_option linter.unusedSimpArgs false
attribute [local go_sem] Oper.semAt_some

/-- what Orders holds: the pen, its pointer, the pieces, three results -/
structure OrR (pb p g q6 q7 q8 q9 q10 : Nat) (s : PenT × Nat) (F : Nat → Prop) (W : World) : Prop where
  pen : PenA W pb p g s.1
  c9 : St W 456 q9 [.pointer (some ⟨pb, 0, none⟩)]
  c10 : St W 3 q10 [.int .i64 (s.2 : Int)]
  c6 : ∃ v, St W 3 q6 [v]
  c7 : ∃ v, St W 3 q7 [v]
  c8 : ∃ v, St W 27 q8 [v]
  inp : ∀ k, pen3 pb p g k → F k
  inq : F q6 ∧ F q7 ∧ F q8 ∧ F q9 ∧ F q10
  lt : ∀ k, F k → k < W.heap.size
theorem OrR.keep {pb p g q6 q7 q8 q9 q10 : Nat} {s : PenT × Nat} {F E : Nat → Prop} {W W' : World} (h : OrR pb p g q6 q7 q8 q9 q10 s F W) (hk : Keep E W W') (he : ∀ k, F k → ¬ E k) : OrR pb p g q6 q7 q8 q9 q10 s F W' := by
  obtain ⟨v6, h6⟩ := h.c6
  obtain ⟨v7, h7⟩ := h.c7
  obtain ⟨v8, h8⟩ := h.c8
  have hp := h.pen
  exact ⟨⟨hp.st.keep hk (he _ (h.inp _ (.inl rfl))), hp.sp.held hk (he _ (h.inp _ (.inr (.inl rfl)))) (he _ (h.inp _ (.inr (.inr rfl)))), hp.ok, hp.kw, hp.n1, hp.n2, hp.b0, hp.b1⟩, h.c9.keep hk (he _ h.inq.2.2.2.1), h.c10.keep hk (he _ h.inq.2.2.2.2), ⟨v6, h6.keep hk (he _ h.inq.1)⟩, ⟨v7, h7.keep hk (he _ h.inq.2.1)⟩, ⟨v8, h8.keep hk (he _ h.inq.2.2.1)⟩, h.inp, h.inq, fun k hk' => by have := h.lt k hk'; have := hk.size; omega⟩
def txK (o : OpP) : Bool := o.kind == 0 || o.kind == 8
def stpO (dop : PenT → OpP → PenT) (T : PenT) (o : OpP) : PenT := { dop T o with tx := txK o }
def bdO (dop : PenT → OpP → PenT) (s : PenT × Nat) (o : OpP) : PenT × Nat := (stpO dop s.1 o, s.2 + 1)
/-- behind a round -/
theorem OrR.next {dop : PenT → OpP → PenT} {pb p g q6 q7 q8 q9 q10 : Nat} {s : PenT × Nat} {F : Nat → Prop} {W w5 : World} {o : OpP} {tk : Bool} (h : OrR pb p g q6 q7 q8 q9 q10 s F W) (hp : PenA w5 pb p g (dop s.1 o)) (hk : Keep (pen3 pb p g) W w5) (htk : txK o = tk)
    (e6 : q6 ≠ q10) (e7 : q7 ≠ q10) (e8 : q8 ≠ q10) (e9 : q9 ≠ q10) (n9 : ¬ pen3 pb p g q9) (n10 : ¬ pen3 pb p g q10) (n6 : ¬ pen3 pb p g q6) (n7 : ¬ pen3 pb p g q7) (n8 : ¬ pen3 pb p g q8) :
    OrR pb p g q6 q7 q8 q9 q10 (bdO dop s o) F ((w5.setCell ⟨pb, 8, none⟩ (.bool tk)).setCell ⟨q10, 0, none⟩ (.int .i64 ((s.2 : Int) + 1))) ∧ Keep F W ((w5.setCell ⟨pb, 8, none⟩ (.bool tk)).setCell ⟨q10, 0, none⟩ (.int .i64 ((s.2 : Int) + 1))) := by
  have k8 : Keep (fun j => j = pb) w5 (w5.setCell ⟨pb, 8, none⟩ (.bool tk)) := (Keep.refl (fun j => j = pb) w5).setCell (p := ⟨pb, 8, none⟩) (.inl rfl) _
  have k10 : Keep (fun j => j = q10) (w5.setCell ⟨pb, 8, none⟩ (.bool tk)) ((w5.setCell ⟨pb, 8, none⟩ (.bool tk)).setCell ⟨q10, 0, none⟩ (.int .i64 ((s.2 : Int) + 1))) := (Keep.refl (fun j => j = q10) (w5.setCell ⟨pb, 8, none⟩ (.bool tk))).setCell (p := ⟨q10, 0, none⟩) (.inl rfl) _
  have hpb := PenC.put hp k8 (hp.st.set 8 (.bool tk)) hp.kw hp.b0 hp.b1
  have i := fun k hk' => h.inp k hk'
  have two : ∀ {T : TypeId} {q : Nat} {v : Value}, ¬ pen3 pb p g q → q ≠ q10 → St W T q [v] → St ((w5.setCell ⟨pb, 8, none⟩ (.bool tk)).setCell ⟨q10, 0, none⟩ (.int .i64 ((s.2 : Int) + 1))) T q [v] := fun hn hq hs => ((hs.keep hk hn).keep k8 (fun e => hn (.inl e))).keep k10 hq
  obtain ⟨v6, h6⟩ := h.c6
  obtain ⟨v7, h7⟩ := h.c7
  obtain ⟨v8, h8⟩ := h.c8
  have hkF : Keep F W ((w5.setCell ⟨pb, 8, none⟩ (.bool tk)).setCell ⟨q10, 0, none⟩ (.int .i64 ((s.2 : Int) + 1))) := ((hk.mono i).trans (k8.mono (fun k e => by rw [e]; exact h.inp _ (.inl rfl)))).trans (k10.mono (fun k e => by rw [e]; exact h.inq.2.2.2.2))
  refine ⟨⟨?_, two n9 e9 h.c9, ?_, ⟨v6, two n6 e6 h6⟩, ⟨v7, two n7 e7 h7⟩, ⟨v8, two n8 e8 h8⟩, h.inp, h.inq, fun k hk' => by have := h.lt k hk'; have := hkF.size; omega⟩, hkF⟩
  · subst htk
    exact ⟨hpb.st.keep k10 (fun e => n10 (.inl e.symm)), hpb.sp.held k10 (fun e => n10 (.inr (.inl e.symm))) (fun e => n10 (.inr (.inr e.symm))), hpb.ok, hpb.kw, hpb.n1, hpb.n2, hpb.b0, hpb.b1⟩
  · have := ((h.c10.keep hk n10).keep k8 (fun e => n10 (.inl e))).set 0 (.int .i64 ((s.2 : Int) + 1))
    simpa [bdO] using this
/-- each order in its turn can be done -/
def DoOk (dop : PenT → OpP → PenT) (p g : Nat) (T0 : PenT) (l : List OpP) : Prop :=
  ∀ pre o post, l = pre ++ o :: post → ∀ W pb (Ap : Option Addr) np cp (At : Option Addr) nt ct, PenA W pb p g (pre.foldl (stpO dop) T0) → Pr 0 W Ap np cp o.prs → Sl 0 W At nt ct o.tx → (∀ q, Ap = some q → ¬ pen3 pb p g q.block) → (∀ q, At = some q → ¬ pen3 pb p g q.block) →
    Calls Tryz.prog 373 #[.pointer (some ⟨pb, 0, none⟩), .agg #[.int .i64 o.kind, .int .i64 o.addr, .int .u8 o.code, .bool o.graph, .int .u8 o.fa, .slice Ap np cp, .slice At nt ct]] W fun e w' => e = .returned (.int .i64 0) ∧ PenA w' pb p g (dop (pre.foldl (stpO dop) T0) o) ∧ Keep (pen3 pb p g) W w'
theorem ords_len (n : Nat) : ∀ l : List Int, l.length ≤ n → (ordsOf l).1.length ≤ l.length := by
  induction n with
  | zero =>
    intro l hl
    have : l = [] := List.eq_nil_of_length_eq_zero (by omega)
    subst this
    simp [ordsOf, allP]
  | succ n ih =>
    intro l hl
    cases h : one l with
    | none => rw [ords_none h]; simp
    | some t =>
      obtain ⟨o, r⟩ := t
      have hs := one_short h
      have := ih r (by omega)
      rw [ords_some h]
      simp
      omega
theorem Sl.keptE {B : Nat} {w w' : World} {A : Option Addr} {n c : Nat} {l : List Int} {E : Nat → Prop} (h : Sl B w A n c l) (hk : Keep E w w') (hE : ∀ p, A = some p → ¬ E p.block) : Sl B w' A n c l :=
  ⟨h.rd.kept hk hE, h.cap, h.mx, h.at_, h.small, h.bytes, fun p hp => by rw [hk.block _ (h.lt hp) (hE p hp)]; exact h.tag p hp⟩
theorem Pr.keptE {B : Nat} {w w' : World} {A : Option Addr} {n c : Nat} {L : List (Int × Int)} {E : Nat → Prop} (h : Pr B w A n c L) (hk : Keep E w w') (hE : ∀ p, A = some p → ¬ E p.block) : Pr B w' A n c L :=
  ⟨h.rd.kept hk hE, h.cap, h.mx, h.at_, h.small, fun p hp => by
    obtain ⟨cur, q, e⟩ := h.tag p hp
    exact ⟨cur, q, (hk.block _ (Array.getElem?_eq_some_iff.1 e).1 (hE p hp)).trans e⟩⟩
theorem bd_fst (dop : PenT → OpP → PenT) : ∀ (l : List OpP) (s : PenT × Nat), (l.foldl (bdO dop) s).1 = l.foldl (stpO dop) s.1
  | [], s => rfl
  | o :: l, s => bd_fst dop l (bdO dop s o)
theorem bd_snd (dop : PenT → OpP → PenT) : ∀ (l : List OpP) (s : PenT × Nat), (l.foldl (bdO dop) s).2 = s.2 + l.length
  | [], s => rfl
  | o :: l, s => by
    have := bd_snd dop l (bdO dop s o)
    simp only [List.foldl_cons, List.length_cons]
    rw [this]
    simp only [bdO]
    omega
theorem parse_val (A : Option Addr) (n c : Nat) (w : World) :
    Calls Tryz.prog 372 #[.slice A n c] w fun e w' => e = .returned (.func (.func 382) #[] #[.pointer (some ⟨w.heap.size, 0, none⟩)]) ∧ w'.cell? ⟨w.heap.size, 0, none⟩ = some (.slice A n c) ∧ Up w w' := by
  go_enter Tryz.func372, Tryz.ntmps372
  go_wp2
  go_ret
  exact ⟨rfl, by simp [go_sem], by (repeat (first | with_reducible exact Up.refl _ | with_reducible refine Up.alloc ?_ _ | with_reducible refine Up.drew ?_ | with_reducible refine Up.drewN ?_ _ | with_reducible refine Up.setCell ?_ (by (try simp) <;> omega) _ | with_reducible assumption | with_reducible refine Up.trans ?_ (by assumption)))⟩
set_option maxRecDepth 100000 in
set_option maxHeartbeats 12800000 in
theorem orders_is {dop : PenT → OpP → PenT} {p g n c : Nat} {A : Option Addr} {l : List Int} {X : Spc} {m : Int} {w : World} (hs : SAt w p g X) (ok : X.Ok) (m0 : 0 ≤ m) (m1 : m < X.r * X.c) (hl : Sl 0 w A n c l) (hA : ∀ q, A = some q → ¬ two p g q.block)
    (hall : (ordsOf l).2 = []) (hdo : DoOk dop p g ⟨X, m, Cl.zero, false⟩ (ordsOf l).1) {T : PenT} (hT : (ordsOf l).1.foldl (stpO dop) ⟨X, m, Cl.zero, false⟩ = T) :
    Calls Tryz.prog 335 #[.pointer (some ⟨p, 0, none⟩), .slice A n c, .int .i64 m] w fun e w' => e = .returned (.tuple #[.int .i64 T.n, .int .i64 ((ordsOf l).1.length : Int), .int .i64 0]) ∧ SAt w' p g T.X ∧ T.X.Ok ∧ Keep (two p g) w w' := by
  have hv := Lib.hid ok.valid
  have hwm : m % (X.r * X.c) = m := Int.emod_eq_of_lt m0 m1
  have HW := Lib.hid hwm
  have H := Lib.hid hs
  have HOK := Lib.hid ok
  have HM := Lib.hid (And.intro m0 m1)
  have HL := Lib.hid hl
  have HA := Lib.hid hA
  have HDO := Lib.hid hdo
  have HALL := Lib.hid hall
  have HT := Lib.hid hT
  have HLEN := Lib.hid (show (ordsOf l).1.length ≤ 65536 from by have h1 := ords_len l.length l (Nat.le_refl _); have h2 := hl.len; have h3 := hl.small; omega)
  clear hs ok hl hA hdo hall hT hwm
  refine (callsIn_wide (n := 9)).1 ?_
  refine callsIn_of_wp_marks Tryz.func335 rfl trivial ?_ rfl
  simp only [Tryz.ntmps335, List.size_toArray, List.length_cons, List.length_nil, Nat.reduceAdd, Nat.reduceSub, Array.replicate_succ, Array.replicate_zero, List.push_toArray, List.append_toArray, List.nil_append, List.cons_append]
  refine wpIn_wide.2 ?_
  go_wp2_with fail
  have hu0 : Up w (((w.alloc (.cells #[.int .i64 0] 3)).alloc (.cells #[.int .i64 0] 3)).alloc (.cells #[.int .i64 0] 27)) := (((Up.refl w).alloc _).alloc _).alloc _
  have s6 : St (((w.alloc (.cells #[.int .i64 0] 3)).alloc (.cells #[.int .i64 0] 3)).alloc (.cells #[.int .i64 0] 27)) 3 w.heap.size [.int .i64 0] := (St.new w 3 [.int .i64 0] rfl).up (((Up.refl _).alloc _).alloc _)
  have s7 : St (((w.alloc (.cells #[.int .i64 0] 3)).alloc (.cells #[.int .i64 0] 3)).alloc (.cells #[.int .i64 0] 27)) 3 (w.heap.size + 1) [.int .i64 0] := by
    have := (St.new (w.alloc (.cells #[.int .i64 0] 3)) 3 [.int .i64 0] rfl).up ((Up.refl _).alloc (.cells #[.int .i64 0] 27))
    rwa [World.size_alloc] at this
  have s8 : St (((w.alloc (.cells #[.int .i64 0] 3)).alloc (.cells #[.int .i64 0] 3)).alloc (.cells #[.int .i64 0] 27)) 27 (w.heap.size + 1 + 1) [.int .i64 0] := by
    have := St.new ((w.alloc (.cells #[.int .i64 0] 3)).alloc (.cells #[.int .i64 0] 3)) 27 [.int .i64 0] rfl
    rwa [World.size_alloc, World.size_alloc] at this
  have hz0 : (((w.alloc (.cells #[.int .i64 0] 3)).alloc (.cells #[.int .i64 0] 3)).alloc (.cells #[.int .i64 0] 27)).heap.size = w.heap.size + 3 := by simp
  generalize ((w.alloc (.cells #[.int .i64 0] 3)).alloc (.cells #[.int .i64 0] 3)).alloc (.cells #[.int .i64 0] 27) = W0 at *
  refine (ssize_is (H.out.up hu0)).mono ?_
  rintro e w1 ⟨rfl, hu1⟩
  have HU1 := Lib.hid (hu0.trans hu1)
  have HU01 := Lib.hid hu1
  clear hu1
  go_wp2_with fail
  refine (wrap_good _ _ _ _ hv.out).mono ?_
  rw [HW.out]
  rintro e w2 ⟨rfl, hu2⟩
  have hu02 : Up W0 w2 := HU01.out.trans hu2
  have huw2 : Up w w2 := hu0.trans hu02
  have hz2 := hu02.size
  have s6' := s6.up hu02
  have s7' := s7.up hu02
  have s8' := s8.up hu02
  have HU2 := Lib.hid huw2
  clear hu2 hu02 huw2 hu0 s6 s7 s8
  go_wp2_with fail
  have hu3 : Up w2 (((w2.alloc (.cells #[.pointer (some ⟨p, 0, none⟩), .int .i64 m, .int .u8 0, .bool false, .int .u8 0, .int .u8 0, .int .u8 0, .int .u8 0, .bool false] 458)).alloc (.cells #[.pointer (some ⟨w2.heap.size, 0, none⟩)] 456)).alloc (.cells #[.int .i64 0] 3)) := (((Up.refl w2).alloc _).alloc _).alloc _
  have t0 : St (((w2.alloc (.cells #[.pointer (some ⟨p, 0, none⟩), .int .i64 m, .int .u8 0, .bool false, .int .u8 0, .int .u8 0, .int .u8 0, .int .u8 0, .bool false] 458)).alloc (.cells #[.pointer (some ⟨w2.heap.size, 0, none⟩)] 456)).alloc (.cells #[.int .i64 0] 3)) 458 w2.heap.size (penVals p m Cl.zero false) := (St.new w2 458 (penVals p m Cl.zero false) rfl).up (((Up.refl _).alloc _).alloc _)
  have t9 : St (((w2.alloc (.cells #[.pointer (some ⟨p, 0, none⟩), .int .i64 m, .int .u8 0, .bool false, .int .u8 0, .int .u8 0, .int .u8 0, .int .u8 0, .bool false] 458)).alloc (.cells #[.pointer (some ⟨w2.heap.size, 0, none⟩)] 456)).alloc (.cells #[.int .i64 0] 3)) 456 (w2.heap.size + 1) [.pointer (some ⟨w2.heap.size, 0, none⟩)] := by
    have := (St.new (w2.alloc (.cells #[.pointer (some ⟨p, 0, none⟩), .int .i64 m, .int .u8 0, .bool false, .int .u8 0, .int .u8 0, .int .u8 0, .int .u8 0, .bool false] 458)) 456 [.pointer (some ⟨w2.heap.size, 0, none⟩)] rfl).up ((Up.refl _).alloc (.cells #[.int .i64 0] 3))
    rwa [World.size_alloc] at this
  have t10 : St (((w2.alloc (.cells #[.pointer (some ⟨p, 0, none⟩), .int .i64 m, .int .u8 0, .bool false, .int .u8 0, .int .u8 0, .int .u8 0, .int .u8 0, .bool false] 458)).alloc (.cells #[.pointer (some ⟨w2.heap.size, 0, none⟩)] 456)).alloc (.cells #[.int .i64 0] 3)) 3 (w2.heap.size + 1 + 1) [.int .i64 0] := by
    have := St.new ((w2.alloc (.cells #[.pointer (some ⟨p, 0, none⟩), .int .i64 m, .int .u8 0, .bool false, .int .u8 0, .int .u8 0, .int .u8 0, .int .u8 0, .bool false] 458)).alloc (.cells #[.pointer (some ⟨w2.heap.size, 0, none⟩)] 456)) 3 [.int .i64 0] rfl
    rwa [World.size_alloc, World.size_alloc] at this
  have hz3 : (((w2.alloc (.cells #[.pointer (some ⟨p, 0, none⟩), .int .i64 m, .int .u8 0, .bool false, .int .u8 0, .int .u8 0, .int .u8 0, .int .u8 0, .bool false] 458)).alloc (.cells #[.pointer (some ⟨w2.heap.size, 0, none⟩)] 456)).alloc (.cells #[.int .i64 0] 3)).heap.size = w2.heap.size + 3 := by simp
  generalize ((w2.alloc (.cells #[.pointer (some ⟨p, 0, none⟩), .int .i64 m, .int .u8 0, .bool false, .int .u8 0, .int .u8 0, .int .u8 0, .int .u8 0, .bool false] 458)).alloc (.cells #[.pointer (some ⟨w2.heap.size, 0, none⟩)] 456)).alloc (.cells #[.int .i64 0] 3) = W3 at *
  refine (parse_val _ _ _ _).mono ?_
  rintro e w4 ⟨rfl, hc4, hu4⟩
  have hw4 : Up w w4 := (HU2.out.trans hu3).trans hu4
  have hz4 := hu4.size
  have hsp := H.out.lt
  have hsg := H.out.cells.2.1
  have hrest : OrR w2.heap.size p g w.heap.size (w.heap.size + 1) (w.heap.size + 1 + 1) (w2.heap.size + 1) (w2.heap.size + 1 + 1) (⟨X, m, Cl.zero, false⟩, 0) (fun k => k = p ∨ k = g ∨ (w.heap.size ≤ k ∧ k < w.heap.size + 3) ∨ (w2.heap.size ≤ k ∧ k < w2.heap.size + 3)) w4 := by
    refine ⟨⟨t0.up hu4, H.out.up hw4, HOK.out, Cl.zero_wf, by omega, by omega, HM.out.1, HM.out.2⟩, t9.up hu4, t10.up hu4, ⟨_, (s6'.up hu3).up hu4⟩, ⟨_, (s7'.up hu3).up hu4⟩, ⟨_, (s8'.up hu3).up hu4⟩, fun k hk => ?_, ⟨by omega, by omega, by omega, by omega, by omega⟩, fun k hk => by omega⟩
    rcases hk with h | h | h <;> omega
  have HIT := Lib.hid (parse_it (Rest := OrR w2.heap.size p g w.heap.size (w.heap.size + 1) (w.heap.size + 1 + 1) (w2.heap.size + 1) (w2.heap.size + 1 + 1)) (bd := bdO dop) (Xs := fun _ _ _ _ => False) (r0 := (⟨X, m, Cl.zero, false⟩, 0)) (fun r F W W' E h hk he => OrR.keep h hk he) (fun r F W h => h.lt) hrest hc4 (HL.out.up hw4) (fun q hq h => by
    have h1 := HL.out.lt hq
    have h2 := HA.out q hq
    have h3 : ¬ (q.block = p ∨ q.block = g) := h2
    omega))
  have HREST := Lib.hid hrest
  have HW4 := Lib.hid hw4
  clear hrest hw4 hu3 t0 t9 t10 s6' s7' s8' hu4
  go_wp2_with fail
  refine (wpIn_wide (n := 9)).1 ?_
  have hit := HIT.out
  clear HIT
  obtain ⟨RR, hRR⟩ : ∃ RR, OrR w2.heap.size p g w.heap.size (w.heap.size + 1) (w.heap.size + 1 + 1) (w2.heap.size + 1) (w2.heap.size + 1 + 1) = RR := ⟨_, rfl⟩
  rw [hRR, hz3] at hit
  generalize hF0 : (fun k => k = p ∨ k = g ∨ (w.heap.size ≤ k ∧ k < w.heap.size + 3) ∨ (w2.heap.size ≤ k ∧ k < w2.heap.size + 3)) = F0 at hit HREST
  refine range_x (σ := PenT × Nat) (α := PX) (n := 9) (gf := 382) (lb := #[.pointer (some ⟨w2.heap.size + 3, 0, none⟩)]) (encs := PX.enc) (F0 := F0) (J1 := P1T RR (bdO dop) (⟨X, m, Cl.zero, false⟩, 0) l) (J2 := P2T RR (bdO dop)) (Jx := fun _ _ _ _ => False) (Je := PeT RR (bdO dop) (⟨X, m, Cl.zero, false⟩, 0) l) ?hg ?eg ?hit ?hF ?hps ?l1 ?l2 ?l3 ?l4 ?axx ?ax ?assign ?body ?done ?stop
  case hg => rfl
  case eg => exact enters_parse
  case hit => exact hit
  case hF => exact HREST.out.lt
  case hps => intro x; cases x <;> rfl
  case l1 =>
    intro s x F W W' h hk
    refine ⟨by rw [← hRR] at *; exact OrR.keep h.1 hk (fun k hk hn => hn.1 hk), ?_⟩
    have h2 := h.2
    cases x with
    | er e => exact h2
    | op o Ap np cp At nt ct =>
      refine ⟨h2.1, h2.2.1.keptE hk (fun q hq e => ?_), h2.2.2.1.keptE hk (fun q hq e => ?_), h2.2.2.2.1, h2.2.2.2.2⟩
      · obtain ⟨cur, q', e1⟩ := h2.2.1.tag q hq
        obtain ⟨r, e2⟩ := e.2
        rw [e1] at e2
        cases e2
      · obtain ⟨cur, q', e1⟩ := h2.2.2.1.tag q hq
        obtain ⟨r, e2⟩ := e.2
        rw [e1] at e2
        cases e2
  case l2 =>
    intro s x F W W' h hk
    cases x with
    | er e => exact h
    | op o Ap np cp At nt ct =>
      show RR _ F W'
      rw [← hRR] at *
      exact OrR.keep h hk (fun k hk hn => hn.1 hk)
  case l3 => exact fun _ _ _ _ _ h _ => h
  case l4 =>
    intro s F W W' h hk
    exact ⟨h.1, h.2.1, by rw [← hRR] at *; exact OrR.keep h.2.2 hk (fun k hk hn => hn.1 hk)⟩
  case axx => exact fun _ x a' W => ∀ o Ap np cp At nt ct, x = .op o Ap np cp At nt ct → ∃ B, St W 463 B [.int .i64 o.kind, .int .i64 o.addr, .int .u8 o.code, .bool o.graph, .int .u8 o.fa, .slice Ap np cp, .slice At nt ct] ∧ w4.heap.size ≤ B ∧ a' = { tmps := #[.pointer (some ⟨p, 0, none⟩), .slice A n c, .int .i64 m, undef, undef, undef, .pointer (some ⟨w.heap.size, 0, none⟩), .pointer (some ⟨w.heap.size + 1, 0, none⟩), .pointer (some ⟨w.heap.size + 1 + 1, 0, none⟩), .pointer (some ⟨w2.heap.size + 1, 0, none⟩), .pointer (some ⟨w2.heap.size + 1 + 1, 0, none⟩), .pointer (some ⟨B, 0, none⟩), .int .i64 0, .pointer (some ⟨p, 0, none⟩), .bool false, .pointer (some ⟨p, 0, none⟩), .pointer (some ⟨p, 0, none⟩), .agg #[.int .i64 X.r, .int .i64 X.c], .int .i64 m, .int .i64 m, .agg #[.pointer (some ⟨p, 0, none⟩), .int .i64 m, .int .u8 0, .bool false, .int .u8 0, .int .u8 0, .int .u8 0, .int .u8 0, .bool false], .pointer (some ⟨w2.heap.size, 0, none⟩), .slice A n c, .func (.func 382) #[] #[.pointer (some ⟨w2.heap.size + 3, 0, none⟩)], .agg #[.int .i64 o.kind, .int .i64 o.addr, .int .u8 o.code, .bool o.graph, .int .u8 o.fa, .slice Ap np cp, .slice At nt ct], .int .i64 0, undef, undef, undef, undef, undef, undef, undef, undef, undef, undef, undef, undef, undef, undef, undef, undef, undef, undef, undef, undef, undef, undef, undef, undef, undef, undef, undef, undef, undef, undef, undef], defers := [] }
  case ax => 
    intro s x a' _ W W' h hc o Ap np cp At nt ct e
    obtain ⟨B, h1, h2, h3⟩ := h o Ap np cp At nt ct e
    exact ⟨B, hc.same B _ h1 (fun h => h) (.inl rfl), h2, h3⟩
  case assign =>
    rintro l' r x F1 W K hk hF1 hJ hK
    cases x with
    | op o Ap np cp At nt ct =>
      simp only [PX.enc]
      gi_wp2
      exact hK _ _ ((Up.refl W).alloc _) (fun _ _ _ _ _ _ _ h => by
        injection h with h1 h2 h3 h4 h5 h6 h7
        subst h1 h2 h3 h4 h5 h6 h7
        exact ⟨W.heap.size, St.new W _ _ rfl, hk.size, rfl⟩)
    | er e =>
      simp only [PX.enc]
      gi_wp2
      exact hK _ _ ((Up.refl W).alloc _) (fun _ _ _ _ _ _ _ h => by cases h)
  case stop => exact fun _ _ _ _ _ _ _ _ h _ => h.elim
  case body =>
    rintro l' r x F1 a' W hk hF1 ⟨hR, hx⟩ hax
    cases x with
    | er e => exact absurd HALL.out hx.2.1
    | op o Ap np cp At nt ct =>
      obtain ⟨B, hB, hBn, rfl⟩ := hax _ _ _ _ _ _ _ rfl
      obtain ⟨⟨pre, post, hpp, hr⟩, hpr, hsl, hna, hnt⟩ := hx
      rw [← hRR] at hR
      have hr1 : r.1 = pre.foldl (stpO dop) ⟨X, m, Cl.zero, false⟩ := by rw [hr]; exact bd_fst dop pre _
      have hdo := HDO.out pre o post hpp W w2.heap.size Ap np cp At nt ct (by rw [← hr1]; exact hR.pen) hpr hsl (fun q hq e => hna q hq (hR.inp _ e)) (fun q hq e => hnt q hq (hR.inp _ e))
      rw [← hr1] at hdo
      have b0 := hB.cell 0 (v := .int .i64 o.kind) rfl
      have b1 := hB.cell 1 (v := .int .i64 o.addr) rfl
      have b2 := hB.cell 2 (v := .int .u8 o.code) rfl
      have b3 := hB.cell 3 (v := .bool o.graph) rfl
      have b4 := hB.cell 4 (v := .int .u8 o.fa) rfl
      have b5 := hB.cell 5 (v := .slice Ap np cp) rfl
      have b6 := hB.cell 6 (v := .slice At nt ct) rfl
      have zB := hB.lt
      have q9 := hR.c9.cell 0 (v := .pointer (some ⟨w2.heap.size, 0, none⟩)) rfl
      have zq9 := hR.c9.lt
      have q10 := hR.c10.cell 0 (v := .int .i64 (r.2 : Int)) rfl
      have zq10 := hR.c10.lt
      have hr2 : (r.2 : Int) + 1 ≤ 9223372036854775807 := by
        have h1 := bd_snd dop pre (⟨X, m, Cl.zero, false⟩, 0)
        rw [← hr] at h1
        have h2 : pre.length ≤ (ordsOf l).1.length := by rw [hpp]; simp
        have h3 := HLEN.out
        simp only at h1
        omega
      have hzz := HU2.out.size
      have n9 : ¬ pen3 w2.heap.size p g (w2.heap.size + 1) := by rintro (h | h | h) <;> omega
      have n10 : ¬ pen3 w2.heap.size p g (w2.heap.size + 1 + 1) := by rintro (h | h | h) <;> omega
      have nB : ¬ pen3 w2.heap.size p g B := by rintro (h | h | h) <;> omega
      obtain ⟨tk, htk⟩ : ∃ tk, txK o = tk := ⟨_, rfl⟩
      have HTK := Lib.hid htk
      unfold txK at htk
      have HRR := Lib.hid hR
      have HBB := Lib.hid hB
      have HDD := Lib.hid hdo
      have HF1 := Lib.hid hF1
      clear hR hB hdo hF1 hr hr1 hpp hpr hsl hna hnt hax
      cases e0 : (o.kind == 0)
      · cases e8 : (o.kind == 8)
        all_goals
          gi_wp2_with (refine ⟨trivial, ?_⟩; gi_at_call 373; (with_reducible refine (CallsIn.inRound _ (callsIn_wide.2 HDD.out)).mono ?_); rintro e w5 ⟨rfl, hpn, hk5⟩; have c9 := ((hk5.at_ _ zq9 n9).1 0).trans q9; have c10 := ((hk5.at_ _ zq10 n10).1 0).trans q10; have f10 := ((hk5.at_ _ zq10 n10).2 0).trans (HRR.out.c10.free 0); have y0 := ((hk5.at_ _ zB nB).1 0).trans b0; have p8 := hpn.st.cell 8 (v := .bool (dop r.1 o).tx) rfl; have pf8 := hpn.st.free 8; have zpb := hpn.st.lt; have c9lt := cell_lt c9; have c10lt := cell_lt c10; have y0lt := cell_lt y0; have HPN := Lib.hid hpn; have HK5 := Lib.hid hk5; clear hpn hk5)
          have htk2 : txK o = tk := HTK.out
          simp only [e0, e8, Bool.or_false, Bool.or_true, Bool.false_or, Bool.true_or] at htk
          subst htk
          have hnx := OrR.next HRR.out HPN.out HK5.out htk2 (by omega) (by omega) (by omega) (by omega) n9 n10 (by rintro (h | h | h) <;> omega) (by rintro (h | h | h) <;> omega) (by rintro (h | h | h) <;> omega)
          refine ⟨hnx.2, F1, fun k hk => .inl hk, ?_⟩
          show RR (bdO dop r o) F1 _
          rw [← hRR]
          exact hnx.1
      · gi_wp2_with (refine ⟨trivial, ?_⟩; gi_at_call 373; (with_reducible refine (CallsIn.inRound _ (callsIn_wide.2 HDD.out)).mono ?_); rintro e w5 ⟨rfl, hpn, hk5⟩; have c9 := ((hk5.at_ _ zq9 n9).1 0).trans q9; have c10 := ((hk5.at_ _ zq10 n10).1 0).trans q10; have f10 := ((hk5.at_ _ zq10 n10).2 0).trans (HRR.out.c10.free 0); have y0 := ((hk5.at_ _ zB nB).1 0).trans b0; have p8 := hpn.st.cell 8 (v := .bool (dop r.1 o).tx) rfl; have pf8 := hpn.st.free 8; have zpb := hpn.st.lt; have c9lt := cell_lt c9; have c10lt := cell_lt c10; have y0lt := cell_lt y0; have HPN := Lib.hid hpn; have HK5 := Lib.hid hk5; clear hpn hk5)
        have htk2 : txK o = tk := HTK.out
        simp only [e0, Bool.true_or] at htk
        subst htk
        have hnx := OrR.next HRR.out HPN.out HK5.out htk2 (by omega) (by omega) (by omega) (by omega) n9 n10 (by rintro (h | h | h) <;> omega) (by rintro (h | h | h) <;> omega) (by rintro (h | h | h) <;> omega)
        refine ⟨hnx.2, F1, fun k hk => .inl hk, ?_⟩
        show RR (bdO dop r o) F1 _
        rw [← hRR]
        exact hnx.1
  case done =>
    rintro D s F2 W hD hk hF2 ⟨h1, h2, h3⟩ hK
    rw [← hRR] at h3
    have hs1 : s.1 = T := by rw [h2, bd_fst]; exact HT.out
    have hs2 : s.2 = (ordsOf l).1.length := by rw [h2, bd_snd]; simp
    have q9 := h3.c9.cell 0 (v := .pointer (some ⟨w2.heap.size, 0, none⟩)) rfl
    have q10 := h3.c10.cell 0 (v := .int .i64 (s.2 : Int)) rfl
    have pn := h3.pen.st.cell 1 (v := .int .i64 s.1.n) rfl
    obtain ⟨v6, h6⟩ := h3.c6
    obtain ⟨v7, h7⟩ := h3.c7
    obtain ⟨v8, h8⟩ := h3.c8
    have q6 := h6.cell 0 (v := v6) rfl
    have q7 := h7.cell 0 (v := v7) rfl
    have q8 := h8.cell 0 (v := v8) rfl
    have f6 := h6.free 0
    have f7 := h7.free 0
    have f8 := h8.free 0
    have z6 := h6.lt
    have z7 := h7.lt
    have z8 := h8.lt
    have z9 := h3.c9.lt
    have z10 := h3.c10.lt
    have zpb := h3.pen.st.lt
    have H3 := Lib.hid h3
    have HKP := Lib.hid hk
    have HK := Lib.hid hK
    have HF2 := Lib.hid hF2
    have HS1 := Lib.hid hs1
    have HS2 := Lib.hid hs2
    have zD := (Array.getElem?_eq_some_iff.1 hK).1
    have hzz := HU2.out.size
    clear h1 h2 h3 h6 h7 h8 hk hK hF2 hs1 hs2
    go_wp2_with fail
    go_region
    go_wp2_with fail
    obtain ⟨v6', g6⟩ := H3.out.c6
    obtain ⟨v7', g7⟩ := H3.out.c7
    obtain ⟨v8', g8⟩ := H3.out.c8
    have a6 := (((g6.set 0 (.int .i64 s.1.n)).other (p := ⟨w.heap.size + 1, 0, none⟩) (fun e => by simp at e; try omega) (.int .i64 (s.2 : Int))).other (p := ⟨w.heap.size + 1 + 1, 0, none⟩) (fun e => by simp at e; try omega) (.int .i64 0)).drew
    have a7 := (((g7.other (p := ⟨w.heap.size, 0, none⟩) (fun e => by simp at e; try omega) (.int .i64 s.1.n)).set 0 (.int .i64 (s.2 : Int))).other (p := ⟨w.heap.size + 1 + 1, 0, none⟩) (fun e => by simp at e; try omega) (.int .i64 0)).drew
    have a8 := (((g8.other (p := ⟨w.heap.size, 0, none⟩) (fun e => by simp at e; try omega) (.int .i64 s.1.n)).other (p := ⟨w.heap.size + 1, 0, none⟩) (fun e => by simp at e; try omega) (.int .i64 (s.2 : Int))).set 0 (.int .i64 0)).drew
    have hKz : Keep (fun k => k = w.heap.size ∨ k = w.heap.size + 1 ∨ k = w.heap.size + 1 + 1) W (((W.setCell ⟨w.heap.size, 0, none⟩ (.int .i64 s.1.n)).setCell ⟨w.heap.size + 1, 0, none⟩ (.int .i64 (s.2 : Int))).setCell ⟨w.heap.size + 1 + 1, 0, none⟩ (.int .i64 0)).drew := ((((Keep.refl _ W).setCell (p := ⟨w.heap.size, 0, none⟩) (.inl (.inl rfl)) _).setCell (p := ⟨w.heap.size + 1, 0, none⟩) (.inl (.inr (.inl rfl))) _).setCell (p := ⟨w.heap.size + 1 + 1, 0, none⟩) (.inl (.inr (.inr rfl))) _).drew
    generalize (((W.setCell ⟨w.heap.size, 0, none⟩ (.int .i64 s.1.n)).setCell ⟨w.heap.size + 1, 0, none⟩ (.int .i64 (s.2 : Int))).setCell ⟨w.heap.size + 1 + 1, 0, none⟩ (.int .i64 0)).drew = Z at *
    have hDz : Z.heap[D]? = some (.deferred (some [])) := (hKz.block D zD (by omega)).trans HK.out
    have hkD : Keep (fun k => k = D) Z (Z.putObj D (.deferred none)) := ⟨rfl, rfl, rfl, by simp, fun k _ hk => World.putObj_heap_other hk⟩
    have c6 := (a6.keep hkD (by show ¬ _ = _; omega)).cell 0 (v := .int .i64 s.1.n) rfl
    have c7 := (a7.keep hkD (by show ¬ _ = _; omega)).cell 0 (v := .int .i64 (s.2 : Int)) rfl
    have c8 := (a8.keep hkD (by show ¬ _ = _; omega)).cell 0 (v := .int .i64 0) rfl
    have hsp' := H3.out.pen
    rw [HS1.out] at hsp' c6
    rw [HS2.out] at c7
    refine ⟨by simp, .inl ⟨_, _, rfl, run_takeDeferred hDz, ?_⟩⟩
    refine ⟨.tuple #[.int .i64 T.n, .int .i64 ((ordsOf l).1.length : Int), .int .i64 0], by simp [results, Tryz.results335, go_sem, c6, c7, c8], rfl, ?_, hsp'.ok, ?_⟩
    · exact (hsp'.sp.held hKz (by omega) (by omega)).held hkD (by show ¬ _ = _; omega) (by show ¬ _ = _; omega)
    · have e1 : Keep (two p g) w W := (Keep.of_up HW4.out).past2 HKP.out (fun k hk => by
        rw [← hF0] at hk
        rcases hk with h | h | h | h
        · exact .inr (.inl h)
        · exact .inr (.inr h)
        · exact .inl h.1
        · exact .inl (by omega))
      have e2 : Keep (two p g) w Z := e1.past2 hKz (fun k hk => .inl (by omega))
      exact e2.past2 hkD (fun k hk => .inl (by have hk' : k = D := hk; have := HW4.out.size; omega))
end Go.Proofs.YtamfjgioajmnpaaGreatDoor
