/-
  sfield's Acts: what all fields ask for, up to the first error, and that. Condition: write's table lies as the row lists it.
-/
import Derived.Test.YtfambgigdhkiaaaDoorRng
import Derived.Test.YtfambgigdhkiaaaDoorSAct7
import Derived.Deep.DeepMust
namespace Go.Proofs.YtfambgigdhkiaaaDoor
open Go.RowKit Go.Shelf
set_option linter.unusedVariables false
set_option linter.unusedSimpArgs false
attribute [local go_sem] Oper.semAt_some

/-- an act as it lies -/
structure EA where
  a : PAct
  A1 : Option Addr
  c1 : Nat
  A2 : Option Addr
  c2 : Nat
def EA.cells (x : EA) : List Value := [.int .i64 x.a.kind, .int .i64 x.a.cmd, .int .i64 x.a.mode, .bool x.a.alt, .int .u8 x.a.req, .slice x.A1 x.a.codes.length x.c1, .slice x.A2 x.a.rec_.length x.c2]
def EA.inn (x : EA) : List Inn := [(x.A1, x.c1, x.a.codes), (x.A2, x.c2, x.a.rec_)]
theorem info_sa : (Tryd.prog.info? 50).map (fun i => (i.zero, i.size, i.bytes)) = some (some (.agg #[.int .i64 0, .int .i64 0, .int .i64 0, .bool false, .int .u8 0, .slice none 0 0, .slice none 0 0]), 7, 80) := by kernel_rfl
theorem ne_sa : 50 ≠ 5 := by decide
def okAll (xs : List EF) : Prop := ∀ y ∈ xs.map EF.bare, okAct y
theorem acts_all {l : List Int} {xs : List EF} (h : xs.map EF.pl = items l) (hc : clean xs) (ho : okAll xs) : actsOf l = ((xs.map EF.bare).map asks, 0) := by
  unfold actsOf
  rw [flds_all h hc, actsG_all ho]
theorem acts_err {l : List Int} {pre : List EF} {x : EF} (h : (pre ++ [x]).map EF.pl <+: items l) (hc : clean pre) (ho : okAll pre) (hx : x.e ≠ 0) : actsOf l = ((pre.map EF.bare).map asks, x.e) := by
  unfold actsOf
  rw [flds_stop h hc hx, actsG_all ho]
theorem acts_bad {l : List Int} {pre : List EF} {x : EF} (h : (pre ++ [x]).map EF.pl <+: items l) (hc : clean (pre ++ [x])) (ho : okAll pre) (hx : ¬ okAct x.bare) : actsOf l = ((pre.map EF.bare).map asks, (actOf x.id x.l).2) := by
  have hp := upTo_pre (clean_pl hc) h
  rw [pl_bare, List.map_append] at hp
  unfold actsOf fldsOf
  rw [actsG_stop ho hx hp]
  rfl
set_option maxRecDepth 100000 in
set_option maxHeartbeats 12800000 in
theorem sacts_is {B : Nat} {A : Option Addr} {n c : Nat} {l : List Int} {w : World} (ht : TabW w) (h : Sl B w A n c l) :
    Calls Tryd.prog 23 #[.slice A n c] w fun e w' => ∃ A' c' ys, e = .returned (.tuple #[.slice A' ys.length c', .int .i64 (actsOf l).2]) ∧ FL 50 7 EA.cells EA.inn w.heap.size w' A' c' ys ∧ ys.map EA.a = (actsOf l).1 ∧ Up w w' := by
  obtain ⟨i0, hi, hz0, hz1, hz2⟩ := info_parts info_sa
  have HS := Lib.hid h
  have HT := Lib.hid ht
  clear h ht
  refine (callsIn_wide (n := 9)).1 ?_
  refine callsIn_of_wp_marks Tryd.func23 rfl trivial ?_ rfl
  simp only [Tryd.ntmps23, List.size_toArray, List.length_cons, List.length_nil, Nat.reduceAdd, Nat.reduceSub, Array.replicate_succ, Array.replicate_zero, List.push_toArray, List.append_toArray, List.nil_append, List.cons_append]
  refine wpIn_wide.2 ?_
  go_wp2_with fail
  refine (fields_fn _ _ _ _).mono ?_
  rintro e w3 ⟨bp, rfl, hb1, hb2, hb3, hb4, hu3⟩
  simp at hb1
  obtain ⟨k2, f2⟩ := hu3.at_ w.heap.size (by (try simp) <;> omega)
  obtain ⟨k3, f3⟩ := hu3.at_ (w.heap.size + 1) (by (try simp) <;> omega)
  obtain ⟨k4, f4⟩ := hu3.at_ (w.heap.size + 1 + 1) (by (try simp) <;> omega)
  have uw : Up w w3 := by (repeat (first | with_reducible exact Up.refl _ | with_reducible refine Up.alloc ?_ _ | with_reducible refine Up.drew ?_ | with_reducible refine Up.drewN ?_ _ | with_reducible refine Up.setCell ?_ (by (try simp) <;> omega) _ | with_reducible assumption | with_reducible refine Up.trans ?_ (by assumption)))
  have c2 : w3.cell? ⟨w.heap.size, 0, none⟩ = some (.slice none 0 0) := (k2 0).trans (by simp [go_sem])
  have c3 : w3.cell? ⟨w.heap.size + 1, 0, none⟩ = some (.int .i64 0) := (k3 0).trans (by simp [go_sem])
  have c4 : w3.cell? ⟨w.heap.size + 1 + 1, 0, none⟩ = some (.slice none 0 0) := (k4 0).trans (by simp [go_sem])
  have g2 : w3.frozen? ⟨w.heap.size, 0, none⟩ = false := (f2 0).trans (by simp [go_sem])
  have g3 : w3.frozen? ⟨w.heap.size + 1, 0, none⟩ = false := (f3 0).trans (by simp [go_sem])
  have g4 : w3.frozen? ⟨w.heap.size + 1 + 1, 0, none⟩ = false := (f4 0).trans (by simp [go_sem])
  have hit := fields_it (HS.out.up uw) hb3 hb4 (fun p hp => by have := HS.out.lt hp; omega) (fun p hp => by have := HS.out.lt hp; have := uw.size; omega)
  have HI := Lib.hid hit
  have HU := Lib.hid uw
  have hzw := hu3.size
  simp at hzw
  clear hit uw k2 k3 k4 f2 f3 f4 hu3
  have HLEN := Lib.hid (show ∀ (pre : List EF) (x : EF), (pre ++ [x]).map EF.pl <+: items l → pre.length + 1 ≤ 65536 from fun pre x hp => by
    have h1 := hp.length_le
    have h2 := items_len l.length l (Nat.le_refl _)
    have h3 := HS.out.small
    have h4 := HS.out.len
    simp at h1
    omega)
  go_wp2_with fail
  have hBw : w.heap.size ≤ w3.heap.size := HU.out.size
  refine wpIn_wide.1 (range_it (n := 9) (gf := 42) (lb := #[.pointer (some ⟨bp, 0, none⟩)]) rfl enters_fields
    (HI.out 8 w3 (fun k => k = w.heap.size ∨ k = w.heap.size + 1 ∨ k = w.heap.size + 1 + 1) (Up.refl _) (fun k hk e => by
      rcases hk with rfl | ⟨p, hp, rfl⟩
      · omega
      · have := HS.out.lt hp; omega))
    (fun k hk => by subst hk; exact hb2) (fun _ => rfl)
    (fun pre W => (∃ ys : List EA, OutI 50 7 EA.cells EA.inn w w3.heap.size (w.heap.size + 1 + 1) [w.heap.size, w.heap.size + 1] ys W ∧ ys.map EA.a = (pre.map EF.bare).map asks) ∧ clean pre ∧ okAll pre)
    (fun c xs W => match c with
      | .ret => ∃ A' c' ys, W.cell? ⟨w.heap.size, 0, none⟩ = some (.slice A' ys.length c') ∧ W.cell? ⟨w.heap.size + 1, 0, none⟩ = some (.int .i64 (actsOf l).2) ∧ FL 50 7 EA.cells EA.inn w3.heap.size W A' c' ys ∧ ys.map EA.a = (actsOf l).1 ∧ Up w W
      | _ => False)
    ?still ?stillx ?start (AllAx w3 l (fun blk x => #[.slice A n c, undef, .pointer (some ⟨w.heap.size, 0, none⟩), .pointer (some ⟨w.heap.size + 1, 0, none⟩), .pointer (some ⟨w.heap.size + 1 + 1, 0, none⟩), blk, .int .i64 x.e, undef, undef, .slice A n c, .func (.func 42) #[] #[.pointer (some ⟨bp, 0, none⟩)], .agg #[.int .u8 x.id, .slice x.A x.l.length x.c], .int .i64 x.e, undef, undef, undef, undef, undef, undef, undef, undef, undef, undef, undef, undef, undef, undef, undef, undef, undef, undef])) ?stilla ?assign ?body ?done ?stop)
  case still =>
    rintro pre W W' ⟨⟨ys, h1, h2⟩, h3, h4⟩ hc
    exact ⟨⟨ys, h1.calm hc hBw (fun j hj => by subst hj; simp; omega), h2⟩, h3, h4⟩
  case stillx =>
    intro c xs W W' h hc
    cases c
    case ret =>
      obtain ⟨A', c', ys, h1, h2, h3, h4, h5⟩ := h
      exact ⟨A', c', ys, hc.cell h1 (by omega), hc.cell h2 (by omega), h3.calm hc (fun j hj => by omega), h4, hc.up h5 hBw (fun j hj => by omega)⟩
    all_goals exact h.elim
  case start =>
    refine ⟨⟨[], ⟨HU.out, Nat.le_refl _, fun r hr => ?_, none, 0, c4, g4, FL.nil⟩, rfl⟩, fun _ h => (by cases h), fun _ h => (by cases h)⟩
    simp only [List.mem_cons, List.mem_nil_iff, or_false] at hr
    rcases hr with rfl | rfl
    · exact ⟨⟨_, c2⟩, g2⟩
    · exact ⟨⟨_, c3⟩, g3⟩
  case stilla => exact fun pre x a' _ W W' h hc => h.calm hc (fun j hj => by subst hj; exact hb2)
  case assign =>
    rintro lb pre x W K ⟨⟨ys, hO, hy⟩, hc, hp⟩ ⟨hG1, hG2⟩ hK
    have hBW := hO.2.1
    have HO := Lib.hid hO
    have HG1 := Lib.hid hG1
    have HG2 := Lib.hid hG2
    have HC := Lib.hid hc
    have HP := Lib.hid hp
    have HY := Lib.hid hy
    clear hO hG1 hG2 hc hp hy
    simp only [EF.enc]
    gi_wp2
    refine hK _ _ (KpR.of_up (show Up W _ by (repeat (first | with_reducible exact Up.refl _ | with_reducible refine Up.alloc ?_ _ | with_reducible refine Up.drew ?_ | with_reducible refine Up.drewN ?_ _ | with_reducible refine Up.setCell ?_ (by (try simp) <;> omega) _ | with_reducible assumption | with_reducible refine Up.trans ?_ (by assumption)))) hBW) ⟨⟨ys, HO.out.up (by (repeat (first | with_reducible exact Up.refl _ | with_reducible refine Up.alloc ?_ _ | with_reducible refine Up.drew ?_ | with_reducible refine Up.drewN ?_ _ | with_reducible refine Up.setCell ?_ (by (try simp) <;> omega) _ | with_reducible assumption | with_reducible refine Up.trans ?_ (by assumption)))), HY.out⟩, HC.out, HP.out⟩ ⟨HG1.out.up (by (repeat (first | with_reducible exact Up.refl _ | with_reducible refine Up.alloc ?_ _ | with_reducible refine Up.drew ?_ | with_reducible refine Up.drewN ?_ _ | with_reducible refine Up.setCell ?_ (by (try simp) <;> omega) _ | with_reducible assumption | with_reducible refine Up.trans ?_ (by assumption)))), HG2.out, W.heap.size, hBW, ?_, ?_, rfl⟩
    · simp [go_sem]
    · simp [go_sem]
  case body =>
    rintro lb pre x a' W hl hr ⟨⟨ys, ⟨hu, hBW, hrs, A1, c5, h4, h5, hfl⟩, hy⟩, hc, hp⟩ ⟨hG1, hG2, blk, hblk, hi0, hi1, rfl⟩
    obtain ⟨⟨v2, hv2⟩, hf2⟩ := hrs (w.heap.size) (by simp)
    obtain ⟨⟨v3, hv3⟩, hf3⟩ := hrs (w.heap.size + 1) (by simp)
    have z2 := cell_lt hv2
    have z3 := cell_lt hv3
    have z4 := cell_lt h4
    have zb := cell_lt hi0
    have HF := Lib.hid hfl
    have HG1 := Lib.hid hG1
    have HG2 := Lib.hid hG2
    have HC := Lib.hid hc
    have HP := Lib.hid hp
    have HY := Lib.hid hy
    have HUW := Lib.hid hu
    have HRS := Lib.hid hrs
    have hyl := congrArg List.length hy
    simp only [List.length_map] at hyl
    have hsmall := HLEN.out pre x hG2
    have hq1 : ys.length + 1 ≤ maxLen := by simp [maxLen]; omega
    have hq2 : (ys.length + 1) * 80 ≤ 140737488355328 := by omega
    clear hfl hG1 hG2 hc hr hrs hu hp hy hyl hsmall
    have HR3 := Lib.hid (show ∀ r ∈ [w.heap.size, w.heap.size + 1], r < w3.heap.size ∧ r ≠ w.heap.size + 1 + 1 from fun r hr => by
      simp only [List.mem_cons, List.mem_nil_iff, or_false] at hr
      rcases hr with rfl | rfl <;> omega)
    have HNE := Lib.hid (show ∀ k, k < w3.heap.size → (Value.slice A1 ys.length c5).ownBlock ≠ some k from fun k hk e => by have := own_bd HF.out.own _ e; omega)
    by_cases he : x.e = 0
    · have e0 : (x.e != 0) = false := by simpa using he
      have HE := Lib.hid (show clean (pre ++ [x]) from fun y hy => by
        rcases List.mem_append.1 hy with hy | hy
        · exact HC.out y hy
        · rw [List.mem_singleton.1 hy]; exact he)
      clear he
      obtain ⟨r, hr⟩ : ∃ r, actOf x.id x.l = r := ⟨_, rfl⟩
      have hact := act_is (id := x.id) (HT.out.up HUW.out) HG1.out
      rw [hr] at hact
      have HA := Lib.hid hact
      have HRR := Lib.hid hr
      clear hact hr
      by_cases hr2 : r.2 = 0
      · have e1 : (r.2 != 0) = false := by simpa using hr2
        have HR2 := Lib.hid hr2
        clear hr2
        gi_wp2_with (first | (refine ⟨trivial, ?_⟩; gi_at_call 20; refine (CallsIn.inRound _ (callsIn_wide.2 HA.out)).mono ?_; rintro e w4 ⟨B1, d1, B2, d2, rfl, s1, s2, u4⟩; obtain ⟨m2, n2⟩ := u4.at_ (w.heap.size) z2; obtain ⟨m3, n3⟩ := u4.at_ (w.heap.size + 1) z3; obtain ⟨m4, n4⟩ := u4.at_ (w.heap.size + 1 + 1) z4; have zz := u4.size; have y2 : w.heap.size < w4.heap.size := (by omega); have y3 : w.heap.size + 1 < w4.heap.size := (by omega); have y4 : w.heap.size + 1 + 1 < w4.heap.size := (by omega); have S1 := Lib.hid s1; have S2 := Lib.hid s2; have U4 := Lib.hid u4; clear s1 s2 u4; unfold actV) | (gi_at_builtin; obtain ⟨W5, hW5⟩ : ∃ W5, (w4.alloc (.cells #[.int .i64 r.1.kind, .int .i64 r.1.cmd, .int .i64 r.1.mode, .bool r.1.alt, .int .u8 r.1.req, .slice B1 r.1.codes.length d1, .slice B2 r.1.rec_.length d2] 50)) = W5 := ⟨_, rfl⟩; rw [hW5]; have hU4 := U4.out; have u5 : Up W W5 := (by rw [← hW5]; (repeat (first | with_reducible exact Up.refl _ | with_reducible refine Up.alloc ?_ _ | with_reducible refine Up.drew ?_ | with_reducible refine Up.drewN ?_ _ | with_reducible refine Up.setCell ?_ (by (try simp) <;> omega) _ | with_reducible assumption | with_reducible refine Up.trans ?_ (by assumption)))); have hg5 : w4.heap.size + 1 = W5.heap.size := (by rw [← hW5]; simp); have u45 : Up w4 W5 := (by rw [← hW5]; exact (Up.refl _).alloc _); have U45 := Lib.hid u45; clear u45; clear hW5 hU4; have hzz5 := u5.size; have z5 := (u5.at_ _ z4); have q4 := (z5.1 0).trans h4; have q5 := (z5.2 0).trans h5; clear z5; have zo5 : w.heap.size + 1 + 1 < W5.heap.size := (by omega); refine wpListIn_app rfl (.tmp 26) (.tmp 28) 56 rfl w3.heap.size 50 i0 _ 7 80 Tryd.underlying56 hi hz0 hz1 hz2 rfl (by decide) A1 ys.length c5 (ys.flatMap EA.cells) rfl (own_up HF.out.own (u5.alloc _)) (W5.heap.size + 1) (some ⟨w4.heap.size + 1, 0, none⟩) 1 1 [.int .i64 r.1.kind, .int .i64 r.1.cmd, .int .i64 r.1.mode, .bool r.1.alt, .int .u8 r.1.req, .slice B1 r.1.codes.length d1, .slice B2 r.1.rec_.length d2] rfl (reads_at W5 (w4.heap.size + 1) 7 1 _ _ rfl hg5) (by simp [EA.cells, Value.oneCell']) hq1 hq2 (show w3.heap.size ≤ (W5.alloc _).heap.size by simp; omega) ?_; intro A2 c2 w6 hown4 hg4 hle4 hmx4 hbl4; have HO4 := Lib.hid hown4; have HG4 := Lib.hid hg4; have HB4 := Lib.hid hbl4; obtain ⟨g4c, g4f⟩ := grown_at hg4 (w.heap.size + 1 + 1) (by simp; omega) (HNE.out _ (by omega)); have k4 := (g4c 0).trans ((World.cell?_alloc_lt W5 _ ⟨w.heap.size + 1 + 1, 0, none⟩ zo5).trans q4); have kf := (g4f 0).trans ((((Up.refl W5).alloc _).at_ _ zo5).2 0 |>.trans q5); have U5 := Lib.hid u5; clear hown4 hg4 hbl4 g4c g4f u5 q4 q5 hzz5))
        have hP := OutI.push2 (W0 := W) (W := W5) (x := (⟨r.1, B1, d1, B2, d2⟩ : EA)) (E := (fun k => k = w.heap.size ∨ k = w.heap.size + 1 ∨ k = w.heap.size + 1 + 1)) U5.out HUW.out hBW HRS.out HF.out (show w.heap.size + 1 + 1 < w3.heap.size by omega) (by omega) HR3.out (.inr (.inr rfl)) h4 h5 ne_sa (by
          intro s hs
          rw [show EA.inn ⟨r.1, B1, d1, B2, d2⟩ = [(B1, d1, r.1.codes), (B2, d2, r.1.rec_)] from rfl] at hs
          simp only [List.mem_cons, List.mem_nil_iff, or_false] at hs
          rcases hs with rfl | rfl
          · exact (S1.out.up U45.out).low hBW
          · exact (S2.out.up U45.out).low hBW) HG4.out HO4.out hle4 hmx4 HB4.out
        refine ⟨hP.2, ⟨_, hP.1, ?_⟩, HE.out, ?_⟩
        · rw [List.map_append, HY.out, List.map_append, List.map_append]
          simp only [List.map_cons, List.map_nil]
          rw [show asks x.bare = r.1 from congrArg Prod.fst HRR.out]
        · intro y hy
          rw [List.map_append] at hy
          rcases List.mem_append.1 hy with hy | hy
          · exact HP.out y hy
          · rw [show [x].map EF.bare = [x.bare] from rfl, List.mem_singleton] at hy
            rw [hy]
            show (actOf x.id x.l).2 = 0
            rw [HRR.out]
            exact HR2.out
      · have e1 : (r.2 != 0) = true := by simpa using hr2
        have hst := Lib.hid (acts_bad HG2.out HE.out HP.out (show ¬ okAct x.bare from fun hh => hr2 (by rw [← HRR.out]; exact hh)))
        clear hr2
        gi_wp2_with (refine ⟨trivial, ?_⟩; gi_at_call 20; refine (CallsIn.inRound _ (callsIn_wide.2 HA.out)).mono ?_; rintro e w4 ⟨B1, d1, B2, d2, rfl, s1, s2, u4⟩; obtain ⟨m2, n2⟩ := u4.at_ (w.heap.size) z2; obtain ⟨m3, n3⟩ := u4.at_ (w.heap.size + 1) z3; obtain ⟨m4, n4⟩ := u4.at_ (w.heap.size + 1 + 1) z4; have zz := u4.size; have y2 : w.heap.size < w4.heap.size := (by omega); have y3 : w.heap.size + 1 < w4.heap.size := (by omega); have y4 : w.heap.size + 1 + 1 < w4.heap.size := (by omega); have S1 := Lib.hid s1; have S2 := Lib.hid s2; have U4 := Lib.hid u4; clear s1 s2 u4; unfold actV)
        have u5 := U4.out
        have j2 := ((u5.at_ (w.heap.size) z2).1 0).trans hv2
        have j3 := ((u5.at_ (w.heap.size + 1) z3).1 0).trans hv3
        have k3 := (cell_off (W := w4) (b := w.heap.size) (b' := w.heap.size + 1) (by omega) 0 0 (.slice A1 ys.length c5)).trans j3
        have hU := HUW.out
        have r2 : ((w4.setCell ⟨w.heap.size, 0, none⟩ (.slice A1 ys.length c5)).setCell ⟨w.heap.size + 1, 0, none⟩ (.int .i64 r.2)).cell? ⟨w.heap.size, 0, none⟩ = some (.slice A1 ys.length c5) := (cell_off (by omega) _ _ _).trans (World.cell?_setCell_same (h := j2) ..)
        have r3 : ((w4.setCell ⟨w.heap.size, 0, none⟩ (.slice A1 ys.length c5)).setCell ⟨w.heap.size + 1, 0, none⟩ (.int .i64 r.2)).cell? ⟨w.heap.size + 1, 0, none⟩ = some (.int .i64 r.2) := World.cell?_setCell_same (h := k3) ..
        refine ⟨(((KpR.of_up u5 hBW).trans (KpR.setCell (p := ⟨w.heap.size, 0, none⟩) (.inl (.inl rfl)) j2)).trans (KpR.setCell (p := ⟨w.heap.size + 1, 0, none⟩) (.inl (.inr (.inl rfl))) k3)).trans (KpR.of_up ((Up.refl _).alloc _) (by simp [World.setCell]; omega)), A1, c5, ys, (World.cell?_alloc_lt _ _ ⟨w.heap.size, 0, none⟩ (cell_lt r2)).trans r2, ?_, (((HF.out.up u5).set (show w.heap.size < w3.heap.size by omega) _).set (show w.heap.size + 1 < w3.heap.size by omega) _).up ((Up.refl _).alloc _), by rw [hst.out]; exact HY.out, by have huu := hU.trans u5; (repeat (first | with_reducible exact Up.refl _ | with_reducible refine Up.alloc ?_ _ | with_reducible refine Up.drew ?_ | with_reducible refine Up.drewN ?_ _ | with_reducible refine Up.setCell ?_ (by (try simp) <;> omega) _ | with_reducible assumption | with_reducible refine Up.trans ?_ (by assumption)))⟩
        rw [hst.out, HRR.out]
        exact (World.cell?_alloc_lt _ _ ⟨w.heap.size + 1, 0, none⟩ (cell_lt r3)).trans r3
    · have e0 : (x.e != 0) = true := by simpa using he
      have hst := Lib.hid (acts_err HG2.out HC.out HP.out he)
      clear he
      gi_wp2
      have k3 := (cell_off (W := W) (b := w.heap.size) (b' := w.heap.size + 1) (by omega) 0 0 (.slice A1 ys.length c5)).trans hv3
      have hU := HUW.out
      refine ⟨(KpR.setCell (p := ⟨w.heap.size, 0, none⟩) (.inl (.inl rfl)) hv2).trans (KpR.setCell (p := ⟨w.heap.size + 1, 0, none⟩) (.inl (.inr (.inl rfl))) k3), A1, c5, ys, (cell_off (by omega) _ _ _).trans (World.cell?_setCell_same (h := hv2) ..), ?_, (HF.out.set (by omega) _).set (by omega) _, by rw [hst.out]; exact HY.out, by (repeat (first | with_reducible exact Up.refl _ | with_reducible refine Up.alloc ?_ _ | with_reducible refine Up.drew ?_ | with_reducible refine Up.drewN ?_ _ | with_reducible refine Up.setCell ?_ (by (try simp) <;> omega) _ | with_reducible assumption | with_reducible refine Up.trans ?_ (by assumption)))⟩
      rw [hst.out]
      exact World.cell?_setCell_same (h := k3) ..
  case done =>
    rintro Dd xs W hD2 hS ⟨⟨ys, ⟨hu, hBW, hrs, A1, c5, h4, h5, hfl⟩, hy⟩, hc, hp⟩ hK
    obtain ⟨⟨v2, hv2⟩, hf2⟩ := hrs (w.heap.size) (by simp)
    obtain ⟨⟨v3, hv3⟩, hf3⟩ := hrs (w.heap.size + 1) (by simp)
    have z2 := cell_lt hv2
    have z3 := cell_lt hv3
    have z4 := cell_lt h4
    have HF := Lib.hid hfl
    have HY := Lib.hid hy
    have HM := Lib.hid (acts_all hS hc hp)
    have HUW := Lib.hid hu
    have HKD := Lib.hid hK
    clear hfl hc hrs hu hS hK hy hp
    go_wp2
    have k3 := (cell_off (W := W) (b := w.heap.size) (b' := w.heap.size + 1) (by omega) 0 0 (.slice A1 ys.length c5)).trans hv3
    have hKV : ((W.setCell ⟨w.heap.size, 0, none⟩ (.slice A1 ys.length c5)).setCell ⟨w.heap.size + 1, 0, none⟩ (.int .i64 0)).heap[Dd]? = some (.deferred (some [])) := (Below.heap_setCell _ ⟨w.heap.size + 1, 0, none⟩ _ Dd (by show Dd ≠ w.heap.size + 1; omega)).trans ((Below.heap_setCell _ ⟨w.heap.size, 0, none⟩ _ Dd (by show Dd ≠ w.heap.size; omega)).trans HKD.out)
    have hcc : Calm w3.heap.size (fun k => k = bp) ((W.setCell ⟨w.heap.size, 0, none⟩ (.slice A1 ys.length c5)).setCell ⟨w.heap.size + 1, 0, none⟩ (.int .i64 0)) (((W.setCell ⟨w.heap.size, 0, none⟩ (.slice A1 ys.length c5)).setCell ⟨w.heap.size + 1, 0, none⟩ (.int .i64 0)).putObj Dd (.deferred none)) := Calm.putObj _ hD2 hKV rfl
    have r2 := hcc.cell ((cell_off (show w.heap.size ≠ w.heap.size + 1 by omega) _ _ _).trans (World.cell?_setCell_same (h := hv2) ..)) (show ¬ w.heap.size = bp by omega)
    have r3 := hcc.cell (World.cell?_setCell_same (h := k3) ..) (show ¬ w.heap.size + 1 = bp by omega)
    have hfin := ((HF.out.set (show w.heap.size < w3.heap.size by omega) _).set (show w.heap.size + 1 < w3.heap.size by omega) _).calm hcc (fun j hj => (show j < w3.heap.size by omega))
    have hU := HUW.out
    have hup : Up w ((W.setCell ⟨w.heap.size, 0, none⟩ (.slice A1 ys.length c5)).setCell ⟨w.heap.size + 1, 0, none⟩ (.int .i64 0)) := by (repeat (first | with_reducible exact Up.refl _ | with_reducible refine Up.alloc ?_ _ | with_reducible refine Up.drew ?_ | with_reducible refine Up.drewN ?_ _ | with_reducible refine Up.setCell ?_ (by (try simp) <;> omega) _ | with_reducible assumption | with_reducible refine Up.trans ?_ (by assumption)))
    refine ⟨by simp, .inl ⟨_, _, rfl, run_takeDeferred hKV, ?_⟩⟩
    refine ⟨.tuple #[.slice A1 ys.length c5, .int .i64 0], by simp [results, Tryd.results23, go_sem, r2, r3], A1, c5, ys, by rw [HM.out], hfin.low hBw, by rw [HM.out]; exact HY.out, hcc.up hup hBw (fun j hj => by omega)⟩
  case stop =>
    rintro Dd c pre W hD2 hS hIx hK
    cases c
    case ret =>
      obtain ⟨A', c', ys, h1, h2, h3, h4, h5⟩ := hIx
      refine wpIn_wide.2 ?_
      have HF := Lib.hid h3
      have HM := Lib.hid h4
      have HUW := Lib.hid h5
      have HKD := Lib.hid hK
      clear h3 h4 h5 hK hS
      go_wp2
      have hKV := HKD.out
      have hcc : Calm w3.heap.size (fun k => k = bp) W (W.putObj Dd (.deferred none)) := Calm.putObj _ hD2 hKV rfl
      have r2 := hcc.cell h1 (show ¬ w.heap.size = bp by omega)
      have r3 := hcc.cell h2 (show ¬ w.heap.size + 1 = bp by omega)
      have hfin := HF.out.calm hcc (fun j hj => (show j < w3.heap.size by omega))
      refine ⟨by simp, .inl ⟨_, _, rfl, run_takeDeferred hKV, ?_⟩⟩
      exact ⟨.tuple #[.slice A' ys.length c', .int .i64 (actsOf l).2], by simp [results, Tryd.results23, go_sem, r2, r3], A', c', ys, rfl, hfin.low hBw, HM.out, hcc.up HUW.out hBw (fun j hj => by omega)⟩
    all_goals exact hIx.elim
end Go.Proofs.YtfambgigdhkiaaaDoor
