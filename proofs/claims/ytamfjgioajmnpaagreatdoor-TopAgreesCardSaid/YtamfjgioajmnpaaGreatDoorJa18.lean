/-
Lists of orders as they lie; what All computes. No condition but the slice's own reach.
What a pen does with a text, an address, a field's start, the cursor. No condition but the addresses'.
What a pen does with an address, a field's start, the cursor. No condition but the addresses'.
A range over a function where iterator and round write what both own: F0 are the blocks that both may write, told anew at each yield. No condition.
-/
import Derived.Test.YtamfjgioajmnpaaGreatDoorJa17
import Derived.Test.YtamfjgioajmnpaaGreatDoorJa12
import Derived.Test.YtamfjgioajmnpaaGreatDoorJa8
import Derived.Test.YtamfjgioajmnpaaGreatDoorJa2
namespace Go.Proofs.YtamfjgioajmnpaaGreatDoor
open Go.RowKit
set_option linter.unusedVariables false
set_option linter.unusedSimpArgs false

/-- an order as it lies -/
structure OR where
  o : OpP
  Ap : Option Addr
  np : Nat
  cp : Nat
  At : Option Addr
  nt : Nat
  ct : Nat
section
variable {B B' : Nat} {w w' : World} {A : Option Addr} {c : Nat} {xs : List OR}
end
theorem one_short {l r : List Int} {o : OpP} (h : one l = some (o, r)) : r.length < l.length := by
  unfold one at h
  match l, h with
  | x :: q, h =>
    simp only at h
    have hd : ∀ k, (q.drop k).length ≤ q.length := fun k => by simp
    repeat' split at h
    all_goals first | cases h | skip
    all_goals first | (injection h with h; injection h with _ h; subst h) | skip
    all_goals first | (simp; done) | (simp; omega) | skip
    rename_i ho
    have : 0 < txtN (x :: q) := by unfold txtN; rw [ho]; simp
    simp
    omega
/-- all orders, what is left where one isn't, and whether nothing is -/
def allP : Nat → List Int → List OpP × List Int
  | 0, l => ([], l)
  | k + 1, l => match one l with
    | none => ([], l)
    | some (o, r) => (o :: (allP k r).1, (allP k r).2)
theorem allP_any {k m : Nat} {l : List Int} (hk : l.length ≤ k) (hm : l.length ≤ m) : allP k l = allP m l := by
  induction k generalizing l m with
  | zero =>
    have : l = [] := List.eq_nil_of_length_eq_zero (by omega)
    subst this
    cases m <;> rfl
  | succ k ih =>
    cases m with
    | zero =>
      have : l = [] := List.eq_nil_of_length_eq_zero (by omega)
      subst this
      rfl
    | succ m =>
      unfold allP
      cases h : one l with
      | none => rfl
      | some y =>
        obtain ⟨o, r⟩ := y
        have := one_short h
        simp only [ih (l := r) (m := m) (by omega) (by omega)]
def ordsOf (l : List Int) : List OpP × List Int := allP l.length l
theorem ords_none {l : List Int} (h : one l = none) : ordsOf l = ([], l) := by
  unfold ordsOf
  cases hl : l.length with
  | zero => rfl
  | succ k => unfold allP; rw [h]
theorem ords_some {l r : List Int} {o : OpP} (h : one l = some (o, r)) : ordsOf l = (o :: (ordsOf r).1, (ordsOf r).2) := by
  have hs := one_short h
  unfold ordsOf
  cases hl : l.length with
  | zero => omega
  | succ k =>
    show (match one l with | none => ([], l) | some (o, r) => (o :: (allP k r).1, (allP k r).2)) = _
    rw [h]
    simp only [allP_any (k := k) (m := r.length) (l := r) (by omega) (Nat.le_refl _)]
local instance : QP := ⟨fun _ => True⟩
end Go.Proofs.YtamfjgioajmnpaaGreatDoor
namespace Go.Proofs.YtamfjgioajmnpaaGreatDoor
open Go.RowKit
set_option linter.unusedVariables false
set_option linter.unusedSimpArgs false

set_option maxRecDepth 100000 in
set_option maxHeartbeats 1600000 in
theorem applied_nil (k : Cl) (w : World) :
    Calls Tryz.prog 388 #[.agg #[.int .u8 k.ch, .bool k.at_, .int .u8 k.fa, .int .u8 k.hi, .int .u8 k.co, .int .u8 k.se], .slice none 0 0] w fun e w' => e = .returned (.tuple #[.agg #[.int .u8 k.ch, .bool k.at_, .int .u8 k.fa, .int .u8 k.hi, .int .u8 k.co, .int .u8 k.se], .int .i64 0]) ∧ Up w w' := by
  go_enter Tryz.func388, Tryz.ntmps388
  go_wp2_with fail
  refine wp_loop_rounds 1 ?_
  rw [rounds_succ]
  go_wp2_with fail
  refine bodyPost_ret (v := .tuple #[k.val, .int .i64 0]) (by simp [results, Tryz.results388, go_sem, Cl.val]) rfl ⟨rfl, by (repeat (first | with_reducible exact Up.refl _ | with_reducible refine Up.alloc ?_ _ | with_reducible refine Up.drew ?_ | with_reducible refine Up.drewN ?_ _ | with_reducible refine Up.setCell ?_ (by (try simp) <;> omega) _ | with_reducible assumption | with_reducible refine Up.trans ?_ (by assumption)))⟩
set_option maxRecDepth 100000 in
set_option maxHeartbeats 1600000 in
theorem pattr_is {w : World} {pb p g : Nat} {X : Spc} {n : Int} {k d d' : Cl} {tx : Bool} {A : Option Addr} {m c : Nat} (h : PenC w pb p g X n k tx) (hdw : d'.Wf)
    (ha : ∀ W, Up w W → Calls Tryz.prog 388 #[.agg #[.int .u8 d.ch, .bool d.at_, .int .u8 d.fa, .int .u8 d.hi, .int .u8 d.co, .int .u8 d.se], .slice A m c] W fun e w' => e = .returned (.tuple #[.agg #[.int .u8 d'.ch, .bool d'.at_, .int .u8 d'.fa, .int .u8 d'.hi, .int .u8 d'.co, .int .u8 d'.se], .int .i64 0]) ∧ Up W w') :
    Calls Tryz.prog 387 #[.pointer (some ⟨pb, 0, none⟩), .agg #[.int .u8 d.ch, .bool d.at_, .int .u8 d.fa, .int .u8 d.hi, .int .u8 d.co, .int .u8 d.se], .slice A m c] w fun e w' => e = .returned (.int .i64 0) ∧ PenC w' pb p g (X.set n d') ((n + 1) % (X.r * X.c)) k tx ∧ Keep (pen3 pb p g) w w' := by
  obtain ⟨Y, hY⟩ : ∃ Y, X.set n d' = Y := ⟨_, rfl⟩
  have okY : Y.Ok := hY ▸ h.ok.set n hdw
  have hr : Y.r * Y.c = X.r * X.c := by rw [← hY]; rfl
  have HA := Lib.hid ha
  have HSE := Lib.hid (fun W (h' : SAt W p g X) => sset_op n rfl hdw h' h.ok hY)
  have HNX := Lib.hid (fun W (h' : PenC W pb p g Y n k tx) => pnext_is h')
  rw [hr] at HNX
  have H := Lib.hid h
  have HY := Lib.hid (And.intro okY hr)
  have zb := h.st.lt
  rw [hY]
  clear h hdw hY okY hr ha
  go_enter Tryz.func387, Tryz.ntmps387
  go_wp2_with fail
  refine (HA.out _ (by (repeat (first | with_reducible exact Up.refl _ | with_reducible refine Up.alloc ?_ _ | with_reducible refine Up.drew ?_ | with_reducible refine Up.drewN ?_ _ | with_reducible refine Up.setCell ?_ (by (try simp) <;> omega) _ | with_reducible assumption | with_reducible refine Up.trans ?_ (by assumption))))).mono ?_
  rintro e w1 ⟨rfl, hu1⟩
  have hu : Up w w1 := Up.trans (by (repeat (first | with_reducible exact Up.refl _ | with_reducible refine Up.alloc ?_ _ | with_reducible refine Up.drew ?_ | with_reducible refine Up.drewN ?_ _ | with_reducible refine Up.setCell ?_ (by (try simp) <;> omega) _ | with_reducible assumption | with_reducible refine Up.trans ?_ (by assumption)))) hu1
  have hb := hu1.at_ w.heap.size (by simp)
  have zw : w.heap.size < w1.heap.size := by have := hu1.size; simp at this; omega
  have hf : FreeAt w1 w.heap.size := fun o => (hb.2 o).trans (by simp [go_sem])
  have f0 := hf 0
  have f1 := hf 1
  have f2 := hf 2
  have f3 := hf 3
  have f4 := hf 4
  have f5 := hf 5
  have q0 := (hb.1 0).trans (by simp [go_sem] : _ = some (.int .u8 d.ch))
  have q1 := (hb.1 1).trans (by simp [go_sem] : _ = some (.bool d.at_))
  have q2 := (hb.1 2).trans (by simp [go_sem] : _ = some (.int .u8 d.fa))
  have q3 := (hb.1 3).trans (by simp [go_sem] : _ = some (.int .u8 d.hi))
  have q4 := (hb.1 4).trans (by simp [go_sem] : _ = some (.int .u8 d.co))
  have q5 := (hb.1 5).trans (by simp [go_sem] : _ = some (.int .u8 d.se))
  have HU := Lib.hid hu
  clear hu hu1 hb hf
  go_wp2_with fail
  have hcat : CellAt (store6 w1 w.heap.size 0 d') w.heap.size 0 d' := store6_same ⟨q0, q1, q2, q3, q4, q5⟩ d'
  have hup2 : Up w (store6 w1 w.heap.size 0 d') := by
    unfold store6
    exact (((((HU.out.setCell (by simp) _).setCell (by simp) _).setCell (by simp) _).setCell (by simp) _).setCell (by simp) _).setCell (by simp) _
  have hz2 : w.heap.size < (store6 w1 w.heap.size 0 d').heap.size := by unfold store6; simp [World.setCell]; exact zw
  obtain ⟨W2, hW2⟩ : ∃ W2, store6 w1 w.heap.size 0 d' = W2 := ⟨_, rfl⟩
  rw [show (((((w1.setCell ⟨w.heap.size, 0, none⟩ (.int .u8 d'.ch)).setCell ⟨w.heap.size, 1, none⟩ (.bool d'.at_)).setCell ⟨w.heap.size, 2, none⟩ (.int .u8 d'.fa)).setCell ⟨w.heap.size, 3, none⟩ (.int .u8 d'.hi)).setCell ⟨w.heap.size, 4, none⟩ (.int .u8 d'.co)).setCell ⟨w.heap.size, 5, none⟩ (.int .u8 d'.se) = W2 from hW2]
  rw [hW2] at hcat hup2 hz2
  have e0 := hcat.h0
  have e1 := hcat.h1
  have e2 := hcat.h2
  have e3 := hcat.h3
  have e4 := hcat.h4
  have e5 := hcat.h5
  simp only [Nat.zero_add] at e1 e2 e3 e4 e5
  have HP := Lib.hid (H.out.up hup2)
  have k0 := HP.out.st.cell 0 (v := .pointer (some ⟨p, 0, none⟩)) rfl
  have k1 := HP.out.st.cell 1 (v := .int .i64 n) rfl
  have zb2 := HP.out.st.lt
  have HU2 := Lib.hid hup2
  clear hcat hup2 q0 q1 q2 q3 q4 q5 f0 f1 f2 f3 f4 f5 hW2
  refine wp_region_mixT 9 (NS := []) [] rfl (by kernel_rfl) (by kernel_rfl) (by simp) (by simp) ?_
  simp only [List.take_succ_cons, List.take_zero, List.drop_succ_cons, List.drop_zero]
  repeat (first
    | (refine mix_skip rfl rfl ?_; simp only [Act.put, List.setIfInBounds_toArray, List.set_cons_succ, List.set_cons_zero])
    | (refine mix_q rfl rfl rfl (by kernel_rfl) rfl rfl rfl ?_
       apply Exists.intro
       refine ⟨fun Wm => ?_, ?_⟩
       · simp only [fin]
         skip
         intro K hK
         go_wp2_with (fail)
         refine hK _ _ ?_ ?_ ?_
         · (repeat (first | with_reducible exact Up.refl _ | with_reducible refine Up.alloc ?_ _ | with_reducible refine Up.drew ?_ | with_reducible refine Up.drewN ?_ _ | with_reducible refine Up.setCell ?_ (by (try simp) <;> omega) _ | with_reducible assumption | with_reducible refine Up.trans ?_ (by assumption)))
         · rfl
         · exact tmps_at rfl
       simp only [Act.put, List.setIfInBounds_toArray, List.set_cons_succ, List.set_cons_zero]))
  refine mix_nil ?_
  intro w3 hb_w3
  simp only [fin]
  have hu_w3 : Up W2 w3 := by (repeat (first | with_reducible exact Up.refl _ | with_reducible refine Up.alloc ?_ _ | with_reducible refine Up.drew ?_ | with_reducible refine Up.drewN ?_ _ | with_reducible refine Up.setCell ?_ (by (try simp) <;> omega) _ | with_reducible assumption | with_reducible refine Up.trans ?_ (by assumption)))
  have hz_w3 := Up.size hb_w3
  try simp at hz_w3
  obtain ⟨bc_w3_0, bf_w3_0⟩ := hu_w3.at_ (pb) (by omega)
  obtain ⟨bc_w3_1, bf_w3_1⟩ := hu_w3.at_ (w.heap.size) (by omega)
  have zb_w3_0 : pb < w3.heap.size := by omega
  have zb_w3_1 : w.heap.size < w3.heap.size := by omega
  go_wp2_with fail
  refine (HSE.out _ (HP.out.sp.up hb_w3)).mono ?_
  rintro e w4 ⟨rfl, hs4, hk4⟩
  have H4 := Lib.hid ((HP.out.up hb_w3).two hk4 hs4 HY.out.1 HY.out.2)
  have HK4 := Lib.hid ((Keep.of_up (E := two p g) (HU2.out.trans hb_w3)).trans hk4)
  clear hs4 hk4
  go_wp2_with fail
  refine (HNX.out _ H4.out).mono ?_
  rintro e w5 ⟨rfl, h5, hk5⟩
  have H5 := Lib.hid h5
  have HK5 := Lib.hid hk5
  clear h5 hk5
  go_wp2_with fail
  go_ret
  exact ⟨rfl, H5.out, (HK4.out.mono (fun j e => e.elim (fun e => .inr (.inl e)) (fun e => .inr (.inr e)))).trans (HK5.out.mono (fun j e => .inl e))⟩
structure PenT where
  X : Spc
  n : Int
  k : Cl
  tx : Bool
def PenA (w : World) (pb p g : Nat) (T : PenT) : Prop := PenC w pb p g T.X T.n T.k T.tx
def PenT.putS (T : PenT) (c : Int) : PenT := ⟨T.X.set T.n (penCl T.k c false), (T.n + 1) % (T.X.r * T.X.c), T.k, T.tx⟩
def PenT.text (T : PenT) (l : List Int) : PenT := l.foldl PenT.putS T
set_option maxRecDepth 100000 in
set_option maxHeartbeats 3200000 in
theorem pdo_text {w : World} {pb p g : Nat} {T : PenT} (h : PenA w pb p g T) {Ap At : Option Addr} {np cp nt ct : Nat} {tx : List Int} {a c f : Int} {gr : Bool} (hs : Sl 0 w At nt ct tx) (hn : ∀ q, At = some q → ¬ pen3 pb p g q.block) :
    Calls Tryz.prog 373 #[.pointer (some ⟨pb, 0, none⟩), .agg #[.int .i64 0, .int .i64 a, .int .u8 c, .bool gr, .int .u8 f, .slice Ap np cp, .slice At nt ct]] w fun e w' => e = .returned (.int .i64 0) ∧ PenA w' pb p g (T.text tx) ∧ Keep (pen3 pb p g) w w' := by
  have H := Lib.hid h
  have HS := Lib.hid hs
  have HN := Lib.hid hn
  have hlen := hs.len
  have hsm := hs.small
  have hnt : (nt : Int) ≤ 65536 := by omega
  have HL := Lib.hid hlen
  clear h hs hn hlen
  go_enter Tryz.func373, Tryz.ntmps373
  go_wp2_with fail
  have hu0 : Up w (w.alloc (.cells #[.int .i64 0, .int .i64 a, .int .u8 c, .bool gr, .int .u8 f, .slice Ap np cp, .slice At nt ct] 463)) := (Up.refl w).alloc _
  go_loopw [17] (fun q wr => ∃ j : Nat, j ≤ nt ∧ q = .int .i64 (j : Int) ∧ PenA wr pb p g (T.text (tx.take j)) ∧ Keep (pen3 pb p g) w wr) (fun q _ => nt - (intOf q).toNat)
  case atStart => exact ⟨0, by omega, rfl, PenC.up H.out hu0, Keep.of_up hu0⟩
  case round =>
    obtain ⟨j, hj, rfl, hp, hk⟩ := hrel
    have HP := Lib.hid hp
    have HK := Lib.hid hk
    clear hp hk hu0
    by_cases hlt : j < nt
    · have hji : (j : Int) < (nt : Int) := by omega
      obtain ⟨g1, off, rfl, zg, -⟩ := HS.out.rd.2 (by omega)
      have hcx := HS.out.cell (i := j) hlt
      have hcx' := ((HK.out.at_ g1 zg (HN.out _ rfl)).1 (off + j)).trans hcx
      have zg' : g1 < wr.heap.size := cell_lt hcx'
      have hx : isB (tx.getD j 0) := by
        have hm : tx.getD j 0 ∈ tx := by
          rw [List.getD, List.getElem?_eq_getElem (by rw [HL.out]; exact hlt)]
          exact List.getElem_mem _
        exact HS.out.bytes _ hm
      have htk : T.text (tx.take (j + 1)) = (T.text (tx.take j)).putS (tx.getD j 0) := by
        unfold PenT.text
        rw [List.take_succ_eq_append_getElem (by rw [HL.out]; exact hlt), List.foldl_append, List.getD, List.getElem?_eq_getElem (by rw [HL.out]; exact hlt)]
        rfl
      obtain ⟨x, hxe⟩ : ∃ x, tx.getD j 0 = x := ⟨_, rfl⟩
      rw [hxe] at hcx' hx htk
      have HPU := Lib.hid (pput_is HP.out hx false)
      have HTK := Lib.hid htk
      clear hcx hxe htk
      go_wp2_with (go_at_call 384; refine HPU.out.mono ?_; rintro e w1 ⟨rfl, hp1, hk1⟩; have HP1 := Lib.hid hp1; have HK1 := Lib.hid hk1; clear hp1 hk1)
      refine ⟨⟨j + 1, by omega, by go_num, by rw [HTK.out]; exact HP1.out, HK.out.trans HK1.out⟩, ?_⟩
      simp [intOf]; omega
    · obtain rfl : j = nt := by omega
      have ht : tx.take j = tx := List.take_of_length_le (by rw [HL.out]; exact Nat.le_refl _)
      have HT := Lib.hid ht
      clear ht
      go_wp2_with fail
      go_ret
      exact ⟨rfl, by rw [← HT.out]; exact HP.out, HK.out⟩
end Go.Proofs.YtamfjgioajmnpaaGreatDoor
namespace Go.Proofs.YtamfjgioajmnpaaGreatDoor
open Go.RowKit
set_option linter.unusedVariables false
set_option linter.unusedSimpArgs false

set_option maxRecDepth 100000 in
set_option maxHeartbeats 1600000 in
theorem pdo_sba {w : World} {pb p g : Nat} {T : PenT} (h : PenA w pb p g T) {Ap At : Option Addr} {np cp nt ct : Nat} {a c f : Int} {gr : Bool} (a0 : 0 ≤ a) (a1 : a < T.X.r * T.X.c) :
    Calls Tryz.prog 373 #[.pointer (some ⟨pb, 0, none⟩), .agg #[.int .i64 17, .int .i64 a, .int .u8 c, .bool gr, .int .u8 f, .slice Ap np cp, .slice At nt ct]] w fun e w' => e = .returned (.int .i64 0) ∧ PenA w' pb p g { T with n := a } ∧ Keep (pen3 pb p g) w w' := by
  have hu0 : Up w (w.alloc (.cells #[.int .i64 17, .int .i64 a, .int .u8 c, .bool gr, .int .u8 f, .slice Ap np cp, .slice At nt ct] 463)) := (Up.refl w).alloc _
  have HT := Lib.hid (pto_is (PenC.up h hu0) a0 a1)
  have HU0 := Lib.hid hu0
  clear h hu0
  go_enter Tryz.func373, Tryz.ntmps373
  go_wp2_with (go_at_call 385; refine HT.out.mono ?_; rintro e w1 ⟨rfl, hp1, hk1⟩; have HP1 := Lib.hid hp1; have HK1 := Lib.hid hk1; clear hp1 hk1)
  go_ret
  exact ⟨rfl, HP1.out, (Keep.of_up HU0.out).trans (HK1.out.mono (fun j e => .inl e))⟩
def sfCl (f : Int) : Cl := ⟨0, true, f, 0, 0, 0⟩
set_option maxRecDepth 100000 in
set_option maxHeartbeats 1600000 in
theorem pdo_sf {w : World} {pb p g : Nat} {T : PenT} (h : PenA w pb p g T) {Ap At : Option Addr} {np cp nt ct : Nat} {a c f : Int} {gr : Bool} (hf : isB f) :
    Calls Tryz.prog 373 #[.pointer (some ⟨pb, 0, none⟩), .agg #[.int .i64 29, .int .i64 a, .int .u8 c, .bool gr, .int .u8 f, .slice Ap np cp, .slice At nt ct]] w fun e w' => e = .returned (.int .i64 0) ∧ PenA w' pb p g { T with X := T.X.set T.n (sfCl f), n := (T.n + 1) % (T.X.r * T.X.c) } ∧ Keep (pen3 pb p g) w w' := by
  have hu0 : Up w (w.alloc (.cells #[.int .i64 29, .int .i64 a, .int .u8 c, .bool gr, .int .u8 f, .slice Ap np cp, .slice At nt ct] 463)) := (Up.refl w).alloc _
  have hw : (sfCl f).Wf := ⟨by simp [sfCl, isB], hf, by simp [sfCl, isB], by simp [sfCl, isB], by simp [sfCl, isB]⟩
  have HT := Lib.hid (pattr_is (d := sfCl f) (d' := sfCl f) (PenC.up h hu0) hw (fun W _ => applied_nil (sfCl f) W))
  simp only [sfCl] at HT
  have HU0 := Lib.hid hu0
  clear h hu0 hw
  go_enter Tryz.func373, Tryz.ntmps373
  go_wp2_with (go_at_call 387; refine HT.out.mono ?_; rintro e w1 ⟨rfl, hp1, hk1⟩; have HP1 := Lib.hid hp1; have HK1 := Lib.hid hk1; clear hp1 hk1)
  go_ret
  exact ⟨rfl, HP1.out, (Keep.of_up HU0.out).trans HK1.out⟩
set_option maxRecDepth 100000 in
set_option maxHeartbeats 1600000 in
theorem pdo_ic {w : World} {pb p g : Nat} {T : PenT} (h : PenA w pb p g T) {Ap At : Option Addr} {np cp nt ct : Nat} {a c f : Int} {gr : Bool} :
    Calls Tryz.prog 373 #[.pointer (some ⟨pb, 0, none⟩), .agg #[.int .i64 19, .int .i64 a, .int .u8 c, .bool gr, .int .u8 f, .slice Ap np cp, .slice At nt ct]] w fun e w' => e = .returned (.int .i64 0) ∧ PenA w' pb p g { T with X := T.X.place T.n } ∧ Keep (pen3 pb p g) w w' := by
  have h' : PenC w pb p g T.X T.n T.k T.tx := h
  have hu0 : Up w (w.alloc (.cells #[.int .i64 19, .int .i64 a, .int .u8 c, .bool gr, .int .u8 f, .slice Ap np cp, .slice At nt ct] 463)) := (Up.refl w).alloc _
  have H := Lib.hid (h'.up hu0)
  have k0 := H.out.st.cell 0 (v := .pointer (some ⟨p, 0, none⟩)) rfl
  have k1 := H.out.st.cell 1 (v := .int .i64 T.n) rfl
  have zb := H.out.st.lt
  have okY : (T.X.place T.n).Ok := h'.ok.place T.n
  have HPL := Lib.hid (fun W (hs : SAt W p g T.X) => splace_is T.n hs h'.ok)
  have HU0 := Lib.hid hu0
  have HOK := Lib.hid okY
  have hq : w.heap.size < (w.alloc (.cells #[.int .i64 19, .int .i64 a, .int .u8 c, .bool gr, .int .u8 f, .slice Ap np cp, .slice At nt ct] 463)).heap.size := by simp
  clear h h' hu0 okY
  go_enter Tryz.func373, Tryz.ntmps373
  go_wp2_with fail
  generalize w.alloc (.cells #[.int .i64 19, .int .i64 a, .int .u8 c, .bool gr, .int .u8 f, .slice Ap np cp, .slice At nt ct] 463) = W at *
  refine wp_region_mixT 8 (NS := []) [] rfl (by kernel_rfl) (by kernel_rfl) (by simp) (by simp) ?_
  simp only [List.take_succ_cons, List.take_zero, List.drop_succ_cons, List.drop_zero]
  repeat (first
    | (refine mix_skip rfl rfl ?_; simp only [Act.put, List.setIfInBounds_toArray, List.set_cons_succ, List.set_cons_zero])
    | (refine mix_q rfl rfl rfl (by kernel_rfl) rfl rfl rfl ?_
       apply Exists.intro
       refine ⟨fun Wm => ?_, ?_⟩
       · simp only [fin]
         skip
         intro K hK
         go_wp2_with (fail)
         refine hK _ _ ?_ ?_ ?_
         · (repeat (first | with_reducible exact Up.refl _ | with_reducible refine Up.alloc ?_ _ | with_reducible refine Up.drew ?_ | with_reducible refine Up.drewN ?_ _ | with_reducible refine Up.setCell ?_ (by (try simp) <;> omega) _ | with_reducible assumption | with_reducible refine Up.trans ?_ (by assumption)))
         · rfl
         · exact tmps_at rfl
       simp only [Act.put, List.setIfInBounds_toArray, List.set_cons_succ, List.set_cons_zero]))
  refine mix_nil ?_
  intro w1 hb_w1
  simp only [fin]
  have hu_w1 : Up W w1 := by (repeat (first | with_reducible exact Up.refl _ | with_reducible refine Up.alloc ?_ _ | with_reducible refine Up.drew ?_ | with_reducible refine Up.drewN ?_ _ | with_reducible refine Up.setCell ?_ (by (try simp) <;> omega) _ | with_reducible assumption | with_reducible refine Up.trans ?_ (by assumption)))
  have hz_w1 := Up.size hb_w1
  try simp at hz_w1
  obtain ⟨bc_w1_0, bf_w1_0⟩ := hu_w1.at_ (pb) (by omega)
  have zb_w1_0 : pb < w1.heap.size := by omega
  go_wp2_with fail
  refine (HPL.out _ (H.out.sp.up hb_w1)).mono ?_
  rintro e w2 ⟨rfl, hs2, hk2⟩
  have H2 := Lib.hid ((H.out.up hb_w1).two hk2 hs2 HOK.out rfl)
  have HK2 := Lib.hid ((Keep.of_up (E := two p g) (HU0.out.trans hb_w1)).trans hk2)
  clear hs2 hk2
  go_wp2_with fail
  go_ret
  exact ⟨rfl, H2.out, HK2.out.mono (fun j e => e.elim (fun e => .inr (.inl e)) (fun e => .inr (.inr e)))⟩
end Go.Proofs.YtamfjgioajmnpaaGreatDoor
namespace Go.Proofs.YtamfjgioajmnpaaGreatDoor
open Go.RowKit
set_option linter.unusedVariables false
set_option linter.unusedSimpArgs false

/-- it hangs on the blocks of F alone -/
def LocF {σ α : Type} (J : σ → α → (Nat → Prop) → World → Prop) : Prop := ∀ s x F W W', J s x F W → Keep (fun k => ¬ F k ∧ ∃ r, W.heap[k]? = some (.loop r)) W W' → J s x F W'
def LocE {σ : Type} (J : σ → (Nat → Prop) → World → Prop) : Prop := ∀ s F W W', J s F W → Keep (fun k => ¬ F k ∧ ∃ r, W.heap[k]? = some (.loop r)) W W' → J s F W'
theorem keep_put1 {F : Nat → Prop} {W : World} {l : Nat} (o' : Obj) (hn : ¬ F l) {r : Loop} (hl : W.heap[l]? = some (.loop r)) : Keep (fun k => ¬ F k ∧ ∃ r, W.heap[k]? = some (.loop r)) W (W.putObj l o') :=
  ⟨rfl, rfl, rfl, by simp, fun k _ hk => World.putObj_heap_other (fun e => by subst e; exact hk ⟨hn, r, hl⟩)⟩
/-- **what the iterator does**: at each yield J1 holds of blocks F1 that the round may write; behind it J2 -/
def ItS {σ α : Type} (P : Program) (g : Nat) (lb : Array Value) (encs : α → Array Value) (F0 : Nat → Prop) (J1 J2 : σ → α → (Nat → Prop) → World → Prop) (Je : σ → (Nat → Prop) → World → Prop) (w : World) : Prop :=
  ∀ (n l : Nat) (W : World), Up w W →
    (∀ s x F1 W1, Keep F0 W W1 → (∀ k, F1 k → Gr F0 W W1 k) → J1 s x F1 W1 → YieldAt Fence.wide (n - 1) P l (encs x) W1 fun e W' => e = .returned (.bool true) ∧ Keep F1 W1 W' ∧ ∃ F2, (∀ k, F2 k → Gr F1 W1 W' k) ∧ J2 s x F2 W') →
    CallsIn Fence.wide n P g (#[.func (.yield l) #[] #[]] ++ lb) W fun e W' => (∃ v, e = .returned v) ∧ Keep F0 W W' ∧ ∃ s F2, (∀ k, F2 k → Gr F0 W W' k) ∧ Je s F2 W'
def postS {σ α : Type} (J2 : σ → α → (Nat → Prop) → World → Prop) (s : σ) (x : α) (F1 : Nat → Prop) (W1 : World) : Exit → Act → World → Prop
  | .normal, _, W' => Keep F1 W1 W' ∧ ∃ F2, (∀ k, F2 k → Gr F1 W1 W' k) ∧ J2 s x F2 W'
  | _, _, _ => False
theorem range_s {σ α : Type} {P : Program} {n : Nat} {g : Operand} {ps : Array Tmp} {assign body : Code} {Q : Exit → Act → World → Prop} {a : Act} {w : World}
    {gf : Nat} {lb : Array Value} (hg : a.eval g = .func (.func gf) #[] lb) (eg : ∀ args w, (callFunc gf args).run P w = .ok (.enter gf args) w)
    {encs : α → Array Value} {F0 : Nat → Prop} {J1 J2 : σ → α → (Nat → Prop) → World → Prop} {Je : σ → (Nat → Prop) → World → Prop} (hseq : ItS P gf lb encs F0 J1 J2 Je w) (hF : ∀ k, F0 k → k < w.heap.size) (hps : ∀ x, (encs x).size = ps.size)
    (h1 : LocF J1) (h2 : LocF J2) (he : LocE Je)
    (Ax : σ → α → Act → World → Prop) (hAx : ∀ s x a', Still (Calm w.heap.size (fun _ => False)) (fun (_ : Unit) W => Ax s x a' W))
    (hassign : ∀ (l : Nat) (s : σ) (x : α) (F1 : Nat → Prop) (W1 : World) (K : Act → World → Prop), Keep F0 w W1 → (∀ k, F1 k → Gr F0 w W1 k) → J1 s x F1 W1 → (∀ a' W', Up W1 W' → Ax s x a' W' → K a' W') →
      assign.wpIn (Fence.wide.inRound l) (n - 1 - 1) P (Exit.then K (fun _ _ _ => False)) { tmps := (ps.zip (encs x)).foldl (fun t (p, v) => t.setIfInBounds p v) a.tmps, defers := [] } W1)
    (hbody : ∀ (l : Nat) (s : σ) (x : α) (F1 : Nat → Prop) (a' : Act) (W1 : World), Keep F0 w W1 → (∀ k, F1 k → Gr F0 w W1 k) → J1 s x F1 W1 → Ax s x a' W1 →
      body.wpIn (Fence.wide.inRound l) (n - 1 - 1) P (postS J2 s x F1 W1) a' W1)
    (hdone : ∀ (D : Nat) (s : σ) (F2 : Nat → Prop) (W : World), w.heap.size ≤ D → Keep F0 w W → (∀ k, F2 k → Gr F0 w W k) → Je s F2 W → W.heap[D]? = some (.deferred (some [])) → Q .normal { a with defers := { target := .collected D, args := #[] } :: a.defers } W) :
    (Code.rangeFunc g ps assign body).wpIn Fence.wide n P Q a w := by
  refine wpIn_rangeFunc ?_
  intro fn hfn
  rw [Fence.wide_round]
  obtain ⟨rec, hrec⟩ : ∃ rec : LoopState → Option Code → Loop, rec = fun st pe => { state := st, pending := pe, fn, tmps := a.tmps, params := ps, assign, body, defers := w.heap.size } := ⟨_, rfl⟩
  obtain ⟨W0, hW0⟩ : ∃ W0, (w.alloc (.deferred (some []))).alloc (.loop (rec .ready none)) = W0 := ⟨_, rfl⟩
  have hz0 : W0.heap.size = w.heap.size + 2 := by rw [← hW0]; simp
  have hL0 : W0.heap[w.heap.size + 1]? = some (.loop (rec .ready none)) := by
    rw [← hW0]; have := World.alloc_heap_new (w.alloc (.deferred (some []))) (.loop (rec .ready none)); rwa [World.size_alloc] at this
  have hK0 : W0.heap[w.heap.size]? = some (.deferred (some [])) := by
    rw [← hW0]; exact (Below.heap_alloc _ _ _ (by simp)).trans (World.alloc_heap_new w _)
  have hb0 : Up w W0 := by
    rw [← hW0]; exact ((Up.refl w).alloc _).alloc _
  refine ⟨w.heap.size + 1, [{ target := .collected w.heap.size, args := #[] }], W0, { target := .fn (.func gf) lb, args := #[.func (.yield (w.heap.size + 1)) #[] #[]] }, W0, gf,
    #[.func (.yield (w.heap.size + 1)) #[] #[]] ++ lb, W0, ?_, ?_, ?_, ?_, fun h => by simp [Fence.wide] at h, ?_⟩
  · rw [← hW0, hrec]; exact run_enterLoop_outer _ _ _ _ _
  · simp only [resolve, hg]
    simp [go_sem]
  · intro f' hf'; trivial
  · simp [invoke, go_sem, eg]
  · -- what F0's holders leave of the loop's two blocks
    have step : ∀ {A B : World} {F : Nat → Prop} {o : Obj} {k : Nat}, Keep F A B → ¬ F k → A.heap[k]? = some o → B.heap[k]? = some o := fun hk hn ho => (hk.block _ (Array.getElem?_eq_some_iff.1 ho).1 hn).trans ho
    have nF : ∀ {A : World} {F : Nat → Prop}, (∀ k, F k → Gr F0 W0 A k) → ¬ F w.heap.size ∧ ¬ F (w.heap.size + 1) := fun {A F} h => by
      refine ⟨fun hk => ?_, fun hk => ?_⟩ <;>
      · rcases h _ hk with h | h
        · have := hF _ h; omega
        · omega
    have gr0 : ∀ {A : World} {F : Nat → Prop}, (∀ k, F k → Gr F0 W0 A k) → ∀ k, F k → Gr F0 w A k := fun h k hk => (h k hk).imp id (fun h => ⟨by omega, h.2⟩)
    have f0 : ¬ F0 w.heap.size ∧ ¬ F0 (w.heap.size + 1) := ⟨fun h => by have := hF _ h; omega, fun h => by have := hF _ h; omega⟩
    refine (hseq (n - 1) (w.heap.size + 1) W0 hb0 ?_).mono ?_
    · rintro s x F1 W hkW hF1 hJ
      have hl := step hkW f0.2 hL0
      have hd := step hkW f0.1 hK0
      have hlt : w.heap.size + 1 < W.heap.size := (Array.getElem?_eq_some_iff.1 hl).1
      have n1 := nF hF1
      have hkw : Keep F0 w W := (Keep.of_up hb0).trans hkW
      have hy := run_yield (P := P) (args := encs x) hl (by rw [hrec]; exact hps x)
      rw [hrec] at hy
      refine ⟨fn, _, assign, body, hy, roundIn_of_wpIn hfn (hassign _ s x F1 W _ hkw (gr0 hF1) hJ ?_)⟩
      clear hy
      intro a' Wa hua hax
      replace hl := (hua.block _ (Array.getElem?_eq_some_iff.1 hl).1).trans hl
      replace hd := (hua.block _ (Array.getElem?_eq_some_iff.1 hd).1).trans hd
      have hlta : w.heap.size + 1 < Wa.heap.size := (Array.getElem?_eq_some_iff.1 hl).1
      have hF1a : ∀ k, F1 k → k < W.heap.size := fun k hk => by
        rcases hF1 k hk with h | h
        · have := hF _ h; omega
        · exact h.2
      have hJa := h1 _ _ _ _ _ hJ (Keep.of_up hua)
      refine ⟨_, run_beginRound hl (by rw [hrec]), ?_⟩
      obtain ⟨Wb, hWb⟩ : ∃ Wb, Wa.putObj (w.heap.size + 1) (.loop { rec .ready none with state := .busy }) = Wb := ⟨_, rfl⟩
      have hWb' : Wa.putObj (w.heap.size + 1) (.loop { rec .ready none with state := .busy }) = Wb := hWb
      have hl2 : Wb.heap[w.heap.size + 1]? = some (.loop { rec .ready none with state := .busy }) := by rw [← hWb]; exact World.putObj_heap_same hlta
      have hd2 : Wb.heap[w.heap.size]? = some (.deferred (some [])) := by rw [← hWb]; exact (World.putObj_heap_other (by omega)).trans hd
      have hzb : Wb.heap.size = Wa.heap.size := by rw [← hWb]; simp
      have hob : ∀ k, k ≠ w.heap.size + 1 → Wb.heap[k]? = Wa.heap[k]? := fun k hk => by rw [← hWb]; exact World.putObj_heap_other hk
      have hJb : J1 s x F1 Wb := by rw [← hWb]; exact h1 _ _ _ _ _ hJa (keep_put1 _ n1.2 hl)
      have hAb : Ax s x a' Wb := by rw [← hWb]; exact hAx s x a' () _ _ hax (Calm.putObj _ (by omega) hl rfl)
      have hkb : Keep F0 w Wb := by
        have hka : Keep F0 w Wa := hkw.up hua
        exact ⟨by rw [← hWb]; exact hka.os, by rw [← hWb]; exact hka.tape, by rw [← hWb]; exact hka.output, by have := hka.size; omega, fun k hk hn => (hob k (by omega)).trans (hka.block k hk hn)⟩
      have hgb : ∀ k, F1 k → Gr F0 w Wb k := fun k hk => (gr0 hF1 k hk).imp id (fun h => ⟨h.1, by have := h.2; have := hua.size; omega⟩)
      rw [hWb']
      refine wpIn_mono (hbody _ s x F1 a' Wb hkb hgb hJb hAb) ?_
      rintro e a3 W3 hp
      cases e with
      | normal =>
        obtain ⟨hk3, F2, hF2, hJ2⟩ := hp
        have hl3 := step hk3 n1.2 hl2
        have hd3 := step hk3 n1.1 hd2
        have hlt3 : w.heap.size + 1 < W3.heap.size := (Array.getElem?_eq_some_iff.1 hl3).1
        have hr := run_endRound (P := P) none hl3
        rw [hrec] at hr
        refine ⟨_, _, hr, rfl, ?_, F2, ?_, ?_⟩
        · have z3 := hk3.size
          have zua := hua.size
          refine ⟨hk3.os.trans (by rw [← hWb]; exact hua.os), hk3.tape.trans (by rw [← hWb]; exact hua.tape), hk3.output.trans (by rw [← hWb]; exact hua.output), by simp; omega, fun k hk hn => ?_⟩
          by_cases hkl : k = w.heap.size + 1
          · subst hkl
            have := (World.putObj_heap_same (o := .loop (rec .ready none)) hlt3)
            rw [hrec] at this hl
            exact this.trans (hl.symm.trans (hua.block _ hlt))
          · exact (World.putObj_heap_other hkl).trans ((hk3.block k (by omega) hn).trans ((hob k hkl).trans (hua.block k hk)))
        · intro k hk
          refine (hF2 k hk).imp id (fun h => ⟨by have := h.1; have := hua.size; omega, by simp; exact h.2⟩)
        · refine h2 _ _ _ _ _ hJ2 (keep_put1 _ (fun hk => ?_) hl3)
          rcases hF2 _ hk with h | h
          · exact n1.2 h
          · omega
      | ret => exact hp.elim
      | exit id => exact hp.elim
      | goto t => exact hp.elim
      | panic ch => exact hp.elim
      | outgrown => exact hp.elim
    · rintro e W2 ⟨⟨v, rfl⟩, hk2, s, F2, hF2, hJe⟩
      have hl := step hk2 f0.2 hL0
      have hd := step hk2 f0.1 hK0
      have hlt : w.heap.size + 1 < W2.heap.size := (Array.getElem?_eq_some_iff.1 hl).1
      have n2 := nF hF2
      have hkw : Keep F0 w W2 := (Keep.of_up hb0).trans hk2
      refine ⟨none, _, by have := run_endLoop (P := P) hl (by rw [hrec]; simp); rw [hrec] at this; exact this, hdone _ s F2 _ (Nat.le_refl _) ?_ ?_ ?_ ((World.putObj_heap_other (by omega)).trans hd)⟩
      · exact ⟨hkw.os, hkw.tape, hkw.output, by simp; exact hkw.size, fun k hk hn => (World.putObj_heap_other (by omega)).trans (hkw.block k hk hn)⟩
      · intro k hk
        exact (gr0 hF2 k hk).imp id (fun h => ⟨h.1, by simp; exact h.2⟩)
      · exact he _ _ _ _ hJe (keep_put1 _ n2.2 hl)
section
variable {P : Program} {w : World} {lb nn : Nat}
/-- an append onto a row of one's own, in a round -/
theorem wpListIn_row {ops : Array Oper} {rest : List Oper} {o : Oper} {a : Act} {Q : Exit → Act → World → Prop} (hgd : o.guard = none) {s x : Operand} (t : TypeId)
    (ho : o.op = .call { callee := .builtin .append, args := #[s, x], argTypes := #[t, t] })
    (e : TypeId) (i : TypeInfo) (z : Value) (size bytes : Nat) (ht : P.underlying t = some (.slice e)) (hi : P.info? e = some i) (hz : i.zero = some z)
    (hsize : i.size = size) (hby : i.bytes = bytes) (hzs : z.cells.size = size) (hsz : 0 < size)
    {F : Nat → Prop} {A : Option Addr} {n c : Nat} {xs : List Value} (hs : a.eval s = .slice A n c) (hown : Row e size w F A n c xs)
    {B : Nat} {Ax : Option Addr} {m cx : Nat} {news : List Value} (hx : a.eval x = .slice Ax m cx) (hr : Reads w B size Ax m news) (h1 : ∀ u ∈ news, u.oneCell' = true)
    (h63 : n + m ≤ maxLen) (hbytes : (n + m) * bytes ≤ 140737488355328)
    (h : ∀ A' c' w', Row e size w' (fun k => F k ∨ k = w.heap.size) A' (n + m) c' (xs ++ news) → w.grownBy w' (blk A) → (blk A' = blk A ∨ blk A' = some w.heap.size) →
      wpListIn (Fence.wide.inRound lb) nn P ops Q rest (a.put o.dst (.slice A' (n + m) c')) w') : wpListIn (Fence.wide.inRound lb) nn P ops Q (o :: rest) a w := by
  have hw : Region.wanted o (yielded ops a.tmps) = true := by simp [Region.wanted, hgd]
  unfold wpListIn
  rw [if_pos hw]
  obtain ⟨A', c', w', hr', h2, h3, h4⟩ := run_row (P := P) w t o.type e i z size bytes ht hi hz hsize hby hzs hsz hown hr (cx := cx) h1 h63 hbytes
  refine oper_in (fun cc => by rw [ho]; simp) ?_
  unfold Oper.wp execOp
  simp only [ho, resolve, invoke, builtin, Sem.run_bind, Sem.run_pure, Result.andThen_ok, List.map_toArray, List.map_cons, List.map_nil, hs, hx, hr']
  exact h A' c' w' h2 h3 h4
end
end Go.Proofs.YtamfjgioajmnpaaGreatDoor
