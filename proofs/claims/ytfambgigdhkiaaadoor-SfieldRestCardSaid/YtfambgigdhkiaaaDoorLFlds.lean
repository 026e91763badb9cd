/-
  The law's fields: the first ones, at most so many, and the error. No condition but the slice's own reach.
-/
import Derived.Test.YtfambgigdhkiaaaDoorRng
namespace Go.Proofs.YtfambgigdhkiaaaDoor
open Go.RowKit Go.Shelf
set_option linter.unusedVariables false
set_option linter.unusedSimpArgs false
attribute [local go_sem] Oper.semAt_some

theorem info_rf2 : (Tryd.prog.info? 43).map (fun i => (i.zero, i.size, i.bytes)) = some (some (.agg #[.int .u8 0, .slice none 0 0]), 2, 32) := by kernel_rfl
theorem ne_rf2 : 43 ≠ 5 := by decide
set_option maxRecDepth 100000 in
set_option maxHeartbeats 6400000 in
theorem lfields_is {B : Nat} {A : Option Addr} {n c most : Nat} {l : List Int} {w : World} (h : Sl B w A n c l) (hmost : 0 < most) (hmost2 : most < 9223372036854775807) :
    Calls Tryd.prog 12 #[.slice A n c, .int .i64 (most : Int)] w fun e w' => ∃ A' c' xs, e = .returned (.tuple #[.slice A' xs.length c', .int .i64 (fldsM l most).2]) ∧ FL 43 2 RF.cells RF.inn w.heap.size w' A' c' xs ∧ xs.map RF.bare = (fldsM l most).1 ∧ Up w w' := by
  obtain ⟨i0, hi, hz0, hz1, hz2⟩ := info_parts info_rf2
  have HS := Lib.hid h
  clear h
  refine (callsIn_wide (n := 9)).1 ?_
  refine callsIn_of_wp_marks Tryd.func12 rfl trivial ?_ rfl
  simp only [Tryd.ntmps12, List.size_toArray, List.length_cons, List.length_nil, Nat.reduceAdd, Nat.reduceSub, Array.replicate_succ, Array.replicate_zero, List.push_toArray, List.append_toArray, List.nil_append, List.cons_append]
  refine wpIn_wide.2 ?_
  go_wp2_with fail
  refine (fields_fn _ _ _ _).mono ?_
  rintro e w3 ⟨bp, rfl, hb1, hb2, hb3, hb4, hu3⟩
  simp at hb1
  obtain ⟨k1, f1⟩ := hu3.at_ w.heap.size (by (try simp) <;> omega)
  obtain ⟨k2, f2⟩ := hu3.at_ (w.heap.size + 1) (by (try simp) <;> omega)
  obtain ⟨k3, f3⟩ := hu3.at_ (w.heap.size + 1 + 1) (by (try simp) <;> omega)
  obtain ⟨k4, f4⟩ := hu3.at_ (w.heap.size + 1 + 1 + 1) (by (try simp) <;> omega)
  have uw : Up w w3 := by (repeat (first | with_reducible exact Up.refl _ | with_reducible refine Up.alloc ?_ _ | with_reducible refine Up.drew ?_ | with_reducible refine Up.drewN ?_ _ | with_reducible refine Up.setCell ?_ (by (try simp) <;> omega) _ | with_reducible assumption | with_reducible refine Up.trans ?_ (by assumption)))
  have c1 : w3.cell? ⟨w.heap.size, 0, none⟩ = some (.int .i64 (most : Int)) := (k1 0).trans (by simp [go_sem])
  have c2 : w3.cell? ⟨w.heap.size + 1, 0, none⟩ = some (.slice none 0 0) := (k2 0).trans (by simp [go_sem])
  have c3 : w3.cell? ⟨w.heap.size + 1 + 1, 0, none⟩ = some (.int .i64 0) := (k3 0).trans (by simp [go_sem])
  have c4 : w3.cell? ⟨w.heap.size + 1 + 1 + 1, 0, none⟩ = some (.slice none 0 0) := (k4 0).trans (by simp [go_sem])
  have g2 : w3.frozen? ⟨w.heap.size + 1, 0, none⟩ = false := (f2 0).trans (by simp [go_sem])
  have g3 : w3.frozen? ⟨w.heap.size + 1 + 1, 0, none⟩ = false := (f3 0).trans (by simp [go_sem])
  have g4 : w3.frozen? ⟨w.heap.size + 1 + 1 + 1, 0, none⟩ = false := (f4 0).trans (by simp [go_sem])
  have hit := fields_it (HS.out.up uw) hb3 hb4 (fun p hp => by have := HS.out.lt hp; omega) (fun p hp => by have := HS.out.lt hp; have := uw.size; omega)
  have HI := Lib.hid hit
  have HU := Lib.hid uw
  have hzw := hu3.size
  simp at hzw
  clear hit uw k1 k2 k3 k4 f1 f2 f3 f4 hu3
  have HLEN := Lib.hid (show ∀ (pre : List EF) (x : EF), (pre ++ [x]).map EF.pl <+: items l → pre.length + 1 ≤ 65536 from fun pre x hp => by
    have h1 := hp.length_le
    have h2 := items_len l.length l (Nat.le_refl _)
    have h3 := HS.out.small
    have h4 := HS.out.len
    simp at h1
    omega)
  go_wp2_with fail
  have hBw : w.heap.size ≤ w3.heap.size := HU.out.size
  refine wpIn_wide.1 (range_it (n := 9) (gf := 42) (lb := #[.pointer (some ⟨bp, 0, none⟩)]) rfl enters_fields
    (HI.out 8 w3 (fun k => k = w.heap.size + 1 ∨ k = w.heap.size + 1 + 1 ∨ k = w.heap.size + 1 + 1 + 1) (Up.refl _) (fun k hk e => by
      rcases hk with rfl | ⟨p, hp, rfl⟩
      · omega
      · have := HS.out.lt hp; omega))
    (fun k hk => by subst hk; exact hb2) (fun _ => rfl)
    (fun pre W => OutI 43 2 EF.cells EF.inn w w3.heap.size (w.heap.size + 1 + 1 + 1) [w.heap.size + 1, w.heap.size + 1 + 1] pre W ∧ W.cell? ⟨w.heap.size, 0, none⟩ = some (.int .i64 (most : Int)) ∧ clean pre ∧ pre.length < most)
    (fun c xs W => match c with
      | .ret => ∃ A' c' ys, W.cell? ⟨w.heap.size + 1, 0, none⟩ = some (.slice A' ys.length c') ∧ W.cell? ⟨w.heap.size + 1 + 1, 0, none⟩ = some (.int .i64 (fldsM l most).2) ∧ FL 43 2 EF.cells EF.inn w3.heap.size W A' c' ys ∧ ys.map EF.bare = (fldsM l most).1 ∧ Up w W
      | .exit id => id = 0 ∧ OutI 43 2 EF.cells EF.inn w w3.heap.size (w.heap.size + 1 + 1 + 1) [w.heap.size + 1, w.heap.size + 1 + 1] xs W ∧ clean xs ∧ xs.length = most ∧ xs.map EF.pl <+: items l
      | _ => False)
    ?still ?stillx ?start (AllAx w3 l (fun blk x => #[.slice A n c, .int .i64 (most : Int), undef, .pointer (some ⟨w.heap.size, 0, none⟩), .pointer (some ⟨w.heap.size + 1, 0, none⟩), .pointer (some ⟨w.heap.size + 1 + 1, 0, none⟩), .pointer (some ⟨w.heap.size + 1 + 1 + 1, 0, none⟩), blk, .int .i64 x.e, .slice A n c, .func (.func 42) #[] #[.pointer (some ⟨bp, 0, none⟩)], .agg #[.int .u8 x.id, .slice x.A x.l.length x.c], .int .i64 x.e, undef, undef, undef, undef, undef, undef, undef, undef, undef, undef, undef, undef, undef])) ?stilla ?assign ?body ?done ?stop)
  case still =>
    rintro pre W W' ⟨h1, h2, h3, h4⟩ hc
    exact ⟨h1.calm hc hBw (fun j hj => by subst hj; simp; omega), hc.cell h2 (by omega), h3, h4⟩
  case stillx =>
    intro c xs W W' h hc
    have hT : ∀ j, j = bp → w.heap.size ≤ j ∧ j < w3.heap.size ∧ j ≠ w.heap.size + 1 + 1 + 1 ∧ j ∉ [w.heap.size + 1, w.heap.size + 1 + 1] := fun j hj => by subst hj; simp; omega
    cases c
    case ret =>
      obtain ⟨A', c', ys, h1, h2, h3, h4, h5⟩ := h
      exact ⟨A', c', ys, hc.cell h1 (by omega), hc.cell h2 (by omega), h3.calm hc (fun j hj => (hT j hj).2.1), h4, hc.up h5 hBw (fun j hj => (hT j hj).1)⟩
    case exit id =>
      obtain ⟨h0, h1, h2, h3, h4⟩ := h
      exact ⟨h0, h1.calm hc hBw hT, h2, h3, h4⟩
    all_goals exact h.elim
  case start =>
    refine ⟨⟨HU.out, Nat.le_refl _, fun r hr => ?_, none, 0, c4, g4, FL.nil⟩, c1, fun _ h => (by cases h), hmost⟩
    simp only [List.mem_cons, List.mem_nil_iff, or_false] at hr
    rcases hr with rfl | rfl
    · exact ⟨⟨_, c2⟩, g2⟩
    · exact ⟨⟨_, c3⟩, g3⟩
  case stilla => exact fun pre x a' _ W W' h hc => h.calm hc (fun j hj => by subst hj; exact hb2)
  case assign =>
    rintro lb pre x W K ⟨hO, hm, hc, hp⟩ ⟨hG1, hG2⟩ hK
    have hBW := hO.2.1
    have HO := Lib.hid hO
    have HG1 := Lib.hid hG1
    have HG2 := Lib.hid hG2
    have HC := Lib.hid hc
    clear hO hG1 hG2 hc
    simp only [EF.enc]
    gi_wp2
    refine hK _ _ (KpR.of_up (show Up W _ by (repeat (first | with_reducible exact Up.refl _ | with_reducible refine Up.alloc ?_ _ | with_reducible refine Up.drew ?_ | with_reducible refine Up.drewN ?_ _ | with_reducible refine Up.setCell ?_ (by (try simp) <;> omega) _ | with_reducible assumption | with_reducible refine Up.trans ?_ (by assumption)))) hBW) ⟨HO.out.up (by (repeat (first | with_reducible exact Up.refl _ | with_reducible refine Up.alloc ?_ _ | with_reducible refine Up.drew ?_ | with_reducible refine Up.drewN ?_ _ | with_reducible refine Up.setCell ?_ (by (try simp) <;> omega) _ | with_reducible assumption | with_reducible refine Up.trans ?_ (by assumption)))), ?_, HC.out, hp⟩ ⟨HG1.out.up (by (repeat (first | with_reducible exact Up.refl _ | with_reducible refine Up.alloc ?_ _ | with_reducible refine Up.drew ?_ | with_reducible refine Up.drewN ?_ _ | with_reducible refine Up.setCell ?_ (by (try simp) <;> omega) _ | with_reducible assumption | with_reducible refine Up.trans ?_ (by assumption)))), HG2.out, W.heap.size, hBW, ?_, ?_, rfl⟩
    · rw [((show Up W _ by (repeat (first | with_reducible exact Up.refl _ | with_reducible refine Up.alloc ?_ _ | with_reducible refine Up.drew ?_ | with_reducible refine Up.drewN ?_ _ | with_reducible refine Up.setCell ?_ (by (try simp) <;> omega) _ | with_reducible assumption | with_reducible refine Up.trans ?_ (by assumption)))).at_ w.heap.size (cell_lt hm)).1 0]; exact hm
    · simp [go_sem]
    · simp [go_sem]
  case body =>
    rintro lb pre x a' W hl hr ⟨⟨hu, hBW, hrs, A1, c5, h4, h5, hfl⟩, hm, hc, hp⟩ ⟨hG1, hG2, blk, hblk, hi0, hi1, rfl⟩
    have hO := Lib.hid (show OutI 43 2 EF.cells EF.inn w w3.heap.size (w.heap.size + 1 + 1 + 1) [w.heap.size + 1, w.heap.size + 1 + 1] pre W from ⟨hu, hBW, hrs, A1, c5, h4, h5, hfl⟩)
    obtain ⟨⟨v2, hv2⟩, hf2⟩ := hrs (w.heap.size + 1) (by simp)
    obtain ⟨⟨v3, hv3⟩, hf3⟩ := hrs (w.heap.size + 1 + 1) (by simp)
    have z2 := cell_lt hv2
    have z3 := cell_lt hv3
    have z4 := cell_lt h4
    have zm := cell_lt hm
    have zb := cell_lt hi0
    have HF := Lib.hid hfl
    have HG1 := Lib.hid hG1
    have HG2 := Lib.hid hG2
    have HC := Lib.hid hc
    have HUW := Lib.hid hu
    have HRS := Lib.hid hrs
    clear hfl hG1 hG2 hc hr hrs hu
    have HNE := Lib.hid (show ∀ k, k < w3.heap.size → (Value.slice A1 pre.length c5).ownBlock ≠ some k from fun k hk e => by have := own_bd HF.out.own _ e; omega)
    have HR3 := Lib.hid (show ∀ r ∈ [w.heap.size + 1, w.heap.size + 1 + 1], r < w3.heap.size ∧ r ≠ w.heap.size + 1 + 1 + 1 from fun r hr => by
      simp only [List.mem_cons, List.mem_nil_iff, or_false] at hr
      rcases hr with rfl | rfl <;> omega)
    have hsmall := HLEN.out pre x HG2.out
    have hq1 : pre.length + 1 ≤ maxLen := by simp [maxLen]; omega
    have hq2 : (pre.length + 1) * 32 ≤ 140737488355328 := by omega
    by_cases he : x.e = 0
    · have e0 : (x.e != 0) = false := by simpa using he
      have HE := Lib.hid (show clean (pre ++ [x]) from fun y hy => by
        rcases List.mem_append.1 hy with hy | hy
        · exact HC.out y hy
        · rw [List.mem_singleton.1 hy]; exact he)
      have HLL := Lib.hid (show (pre ++ [x]).length = pre.length + 1 by simp)
      clear he
      by_cases hlast : pre.length + 1 = most
      · have e1 : (((pre.length : Nat) : Int) + 1 == (most : Int)) = true := by simp; omega
        have HLA := Lib.hid hlast
        clear hlast
        gi_wp2_with (gi_at_builtin; refine wpListIn_app rfl (.tmp 17) (.tmp 19) 31 rfl w3.heap.size 43 i0 _ 2 32 Tryd.underlying31 hi hz0 hz1 hz2 rfl (by decide) A1 pre.length c5 (pre.flatMap EF.cells) rfl (own_up HF.out.own ((Up.refl W).alloc _)) (W.heap.size + 1) (some ⟨W.heap.size, 0, none⟩) 1 1 [.int .u8 x.id, .slice x.A x.l.length x.c] rfl (reads_at W W.heap.size 2 1 _ _ rfl rfl) (by simp [Value.oneCell']) hq1 hq2 (by simp; omega) ?_; intro A2 c2 w4 hown4 hg4 hle4 hmx4 hbl4; have HO4 := Lib.hid hown4; have HG4 := Lib.hid hg4; have HB4 := Lib.hid hbl4; obtain ⟨g4c, g4f⟩ := grown_at hg4 (w.heap.size + 1 + 1 + 1) (by simp; omega) (HNE.out _ (by omega)); obtain ⟨gmc, gmf⟩ := grown_at hg4 w.heap.size (by simp; omega) (HNE.out _ (by omega)); have k4 := (g4c 0).trans ((World.cell?_alloc_lt W _ ⟨w.heap.size + 1 + 1 + 1, 0, none⟩ z4).trans h4); have kf := (g4f 0).trans ((((Up.refl W).alloc _).at_ _ z4).2 0 |>.trans h5); have km := (gmc 0).trans ((World.cell?_alloc_lt W _ ⟨w.heap.size, 0, none⟩ zm).trans hm); clear hown4 hg4 hbl4 g4c g4f gmc gmf)
        have hP := OutI.push (x := x) (E := fun k => k = w.heap.size + 1 ∨ k = w.heap.size + 1 + 1 ∨ k = w.heap.size + 1 + 1 + 1) HUW.out hBW HRS.out HF.out (show w.heap.size + 1 + 1 + 1 < w3.heap.size by omega) (by omega) HR3.out (.inr (.inr rfl)) h4 h5 ne_rf2 (by intro s hs; rw [show EF.inn x = [(x.A, x.c, x.l)] from rfl, List.mem_singleton] at hs; rw [hs]; exact HG1.out) HG4.out HO4.out hle4 hmx4 HB4.out
        exact ⟨hP.2, rfl, hP.1, HE.out, HLL.out.trans HLA.out, HG2.out⟩
      · have e1 : (((pre.length : Nat) : Int) + 1 == (most : Int)) = false := by simp; omega
        have HLA := Lib.hid (show pre.length + 1 < most by omega)
        clear hlast
        gi_wp2_with (gi_at_builtin; refine wpListIn_app rfl (.tmp 17) (.tmp 19) 31 rfl w3.heap.size 43 i0 _ 2 32 Tryd.underlying31 hi hz0 hz1 hz2 rfl (by decide) A1 pre.length c5 (pre.flatMap EF.cells) rfl (own_up HF.out.own ((Up.refl W).alloc _)) (W.heap.size + 1) (some ⟨W.heap.size, 0, none⟩) 1 1 [.int .u8 x.id, .slice x.A x.l.length x.c] rfl (reads_at W W.heap.size 2 1 _ _ rfl rfl) (by simp [Value.oneCell']) hq1 hq2 (by simp; omega) ?_; intro A2 c2 w4 hown4 hg4 hle4 hmx4 hbl4; have HO4 := Lib.hid hown4; have HG4 := Lib.hid hg4; have HB4 := Lib.hid hbl4; obtain ⟨g4c, g4f⟩ := grown_at hg4 (w.heap.size + 1 + 1 + 1) (by simp; omega) (HNE.out _ (by omega)); obtain ⟨gmc, gmf⟩ := grown_at hg4 w.heap.size (by simp; omega) (HNE.out _ (by omega)); have k4 := (g4c 0).trans ((World.cell?_alloc_lt W _ ⟨w.heap.size + 1 + 1 + 1, 0, none⟩ z4).trans h4); have kf := (g4f 0).trans ((((Up.refl W).alloc _).at_ _ z4).2 0 |>.trans h5); have km := (gmc 0).trans ((World.cell?_alloc_lt W _ ⟨w.heap.size, 0, none⟩ zm).trans hm); clear hown4 hg4 hbl4 g4c g4f gmc gmf)
        have hP := OutI.push (x := x) (E := fun k => k = w.heap.size + 1 ∨ k = w.heap.size + 1 + 1 ∨ k = w.heap.size + 1 + 1 + 1) HUW.out hBW HRS.out HF.out (show w.heap.size + 1 + 1 + 1 < w3.heap.size by omega) (by omega) HR3.out (.inr (.inr rfl)) h4 h5 ne_rf2 (by intro s hs; rw [show EF.inn x = [(x.A, x.c, x.l)] from rfl, List.mem_singleton] at hs; rw [hs]; exact HG1.out) HG4.out HO4.out hle4 hmx4 HB4.out
        exact ⟨hP.2, hP.1, (cell_off (by omega) _ _ _).trans km, HE.out, by rw [HLL.out]; exact HLA.out⟩
    · have e0 : (x.e != 0) = true := by simpa using he
      have hst := Lib.hid (fldsM_stop HG2.out HC.out he hp)
      clear he
      gi_wp2
      have k3 := (cell_off (W := W) (b := w.heap.size + 1) (b' := w.heap.size + 1 + 1) (by omega) 0 0 (.slice A1 pre.length c5)).trans hv3
      have hU := HUW.out
      refine ⟨(KpR.setCell (p := ⟨w.heap.size + 1, 0, none⟩) (.inl (.inl rfl)) hv2).trans (KpR.setCell (p := ⟨w.heap.size + 1 + 1, 0, none⟩) (.inl (.inr (.inl rfl))) k3), A1, c5, pre, (cell_off (by omega) _ _ _).trans (World.cell?_setCell_same (h := hv2) ..), ?_, (HF.out.set (by omega) _).set (by omega) _, by rw [hst.out], by (repeat (first | with_reducible exact Up.refl _ | with_reducible refine Up.alloc ?_ _ | with_reducible refine Up.drew ?_ | with_reducible refine Up.drewN ?_ _ | with_reducible refine Up.setCell ?_ (by (try simp) <;> omega) _ | with_reducible assumption | with_reducible refine Up.trans ?_ (by assumption)))⟩
      rw [hst.out]
      exact World.cell?_setCell_same (h := k3) ..
  case done =>
    rintro Dd xs W hD2 hS ⟨⟨hu, hBW, hrs, A1, c5, h4, h5, hfl⟩, hm, hc, hp⟩ hK
    obtain ⟨⟨v2, hv2⟩, hf2⟩ := hrs (w.heap.size + 1) (by simp)
    obtain ⟨⟨v3, hv3⟩, hf3⟩ := hrs (w.heap.size + 1 + 1) (by simp)
    have z2 := cell_lt hv2
    have z3 := cell_lt hv3
    have z4 := cell_lt h4
    have HF := Lib.hid hfl
    have HM := Lib.hid (fldsM_all hS hc hp)
    have HUW := Lib.hid hu
    have HKD := Lib.hid hK
    clear hfl hc hrs hu hm hS hK
    go_wp2
    have k3 := (cell_off (W := W) (b := w.heap.size + 1) (b' := w.heap.size + 1 + 1) (by omega) 0 0 (.slice A1 xs.length c5)).trans hv3
    have hKV : ((W.setCell ⟨w.heap.size + 1, 0, none⟩ (.slice A1 xs.length c5)).setCell ⟨w.heap.size + 1 + 1, 0, none⟩ (.int .i64 0)).heap[Dd]? = some (.deferred (some [])) := (Below.heap_setCell _ ⟨w.heap.size + 1 + 1, 0, none⟩ _ Dd (by show Dd ≠ w.heap.size + 1 + 1; omega)).trans ((Below.heap_setCell _ ⟨w.heap.size + 1, 0, none⟩ _ Dd (by show Dd ≠ w.heap.size + 1; omega)).trans HKD.out)
    have hcc : Calm w3.heap.size (fun k => k = bp) ((W.setCell ⟨w.heap.size + 1, 0, none⟩ (.slice A1 xs.length c5)).setCell ⟨w.heap.size + 1 + 1, 0, none⟩ (.int .i64 0)) (((W.setCell ⟨w.heap.size + 1, 0, none⟩ (.slice A1 xs.length c5)).setCell ⟨w.heap.size + 1 + 1, 0, none⟩ (.int .i64 0)).putObj Dd (.deferred none)) := Calm.putObj _ hD2 hKV rfl
    have r2 := hcc.cell ((cell_off (show w.heap.size + 1 ≠ w.heap.size + 1 + 1 by omega) _ _ _).trans (World.cell?_setCell_same (h := hv2) ..)) (show ¬ w.heap.size + 1 = bp by omega)
    have r3 := hcc.cell (World.cell?_setCell_same (h := k3) ..) (show ¬ w.heap.size + 1 + 1 = bp by omega)
    have hfin := ((HF.out.set (show w.heap.size + 1 < w3.heap.size by omega) _).set (show w.heap.size + 1 + 1 < w3.heap.size by omega) _).calm hcc (fun j hj => (show j < w3.heap.size by omega))
    have hup : Up w ((W.setCell ⟨w.heap.size + 1, 0, none⟩ (.slice A1 xs.length c5)).setCell ⟨w.heap.size + 1 + 1, 0, none⟩ (.int .i64 0)) := by have hU := HUW.out; (repeat (first | with_reducible exact Up.refl _ | with_reducible refine Up.alloc ?_ _ | with_reducible refine Up.drew ?_ | with_reducible refine Up.drewN ?_ _ | with_reducible refine Up.setCell ?_ (by (try simp) <;> omega) _ | with_reducible assumption | with_reducible refine Up.trans ?_ (by assumption)))
    refine ⟨by simp, .inl ⟨_, _, rfl, run_takeDeferred hKV, ?_⟩⟩
    refine ⟨.tuple #[.slice A1 xs.length c5, .int .i64 0], by simp [results, Tryd.results12, go_sem, r2, r3], A1, c5, xs.map EF.rf, ?_, (hfin.low hBw).rf, ?_, hcc.up hup hBw (fun j hj => by omega)⟩
    · rw [HM.out, List.length_map]
    · rw [HM.out, bare_rf]
  case stop =>
    rintro Dd c pre W hD2 hS hIx hK
    cases c
    case ret =>
      obtain ⟨A', c', ys, h1, h2, h3, h4, h5⟩ := hIx
      refine wpIn_wide.2 ?_
      have HF := Lib.hid h3
      have HM := Lib.hid h4
      have HUW := Lib.hid h5
      have HKD := Lib.hid hK
      clear h3 h4 h5 hK hS
      go_wp2
      have hKV : (W).heap[Dd]? = some (.deferred (some [])) := HKD.out
      have hcc : Calm w3.heap.size (fun k => k = bp) (W) ((W).putObj Dd (.deferred none)) := Calm.putObj _ hD2 hKV rfl
      have r2 := hcc.cell (h1) (show ¬ w.heap.size + 1 = bp by omega)
      have r3 := hcc.cell (h2) (show ¬ w.heap.size + 1 + 1 = bp by omega)
      have hfin := (HF.out).calm hcc (fun j hj => (show j < w3.heap.size by omega))
      have hup : Up w (W) := by have hU := HUW.out; exact hU
      refine ⟨by simp, .inl ⟨_, _, rfl, run_takeDeferred hKV, ?_⟩⟩
      refine ⟨.tuple #[.slice A' ys.length c', .int .i64 (fldsM l most).2], by simp [results, Tryd.results12, go_sem, r2, r3], A', c', ys.map EF.rf, ?_, (hfin.low hBw).rf, ?_, hcc.up hup hBw (fun j hj => by omega)⟩
      · rw [List.length_map]
      · rw [bare_rf]; exact HM.out
    case exit id =>
      obtain ⟨rfl, ⟨hu, hBW, hrs, A1, c5, h4, h5, hfl⟩, hc, hlen, hpre⟩ := hIx
      refine wpIn_wide.2 ?_
      obtain ⟨⟨v2, hv2⟩, hf2⟩ := hrs (w.heap.size + 1) (by simp)
      obtain ⟨⟨v3, hv3⟩, hf3⟩ := hrs (w.heap.size + 1 + 1) (by simp)
      have z2 := cell_lt hv2
      have z3 := cell_lt hv3
      have z4 := cell_lt h4
      have HF := Lib.hid hfl
      have HM := Lib.hid (fldsM_few hpre hc hlen)
      have HUW := Lib.hid hu
      have HKD := Lib.hid hK
      clear hfl hc hrs hu hS hK hpre hlen
      go_wp2
      have k3 := (cell_off (W := W) (b := w.heap.size + 1) (b' := w.heap.size + 1 + 1) (by omega) 0 0 (.slice A1 pre.length c5)).trans hv3
      have hKV : ((W.setCell ⟨w.heap.size + 1, 0, none⟩ (.slice A1 pre.length c5)).setCell ⟨w.heap.size + 1 + 1, 0, none⟩ (.int .i64 0)).heap[Dd]? = some (.deferred (some [])) := (Below.heap_setCell _ ⟨w.heap.size + 1 + 1, 0, none⟩ _ Dd (by show Dd ≠ w.heap.size + 1 + 1; omega)).trans ((Below.heap_setCell _ ⟨w.heap.size + 1, 0, none⟩ _ Dd (by show Dd ≠ w.heap.size + 1; omega)).trans HKD.out)
      have hcc : Calm w3.heap.size (fun k => k = bp) ((W.setCell ⟨w.heap.size + 1, 0, none⟩ (.slice A1 pre.length c5)).setCell ⟨w.heap.size + 1 + 1, 0, none⟩ (.int .i64 0)) (((W.setCell ⟨w.heap.size + 1, 0, none⟩ (.slice A1 pre.length c5)).setCell ⟨w.heap.size + 1 + 1, 0, none⟩ (.int .i64 0)).putObj Dd (.deferred none)) := Calm.putObj _ hD2 hKV rfl
      have r2 := hcc.cell ((cell_off (show w.heap.size + 1 ≠ w.heap.size + 1 + 1 by omega) _ _ _).trans (World.cell?_setCell_same (h := hv2) ..)) (show ¬ w.heap.size + 1 = bp by omega)
      have r3 := hcc.cell (World.cell?_setCell_same (h := k3) ..) (show ¬ w.heap.size + 1 + 1 = bp by omega)
      have hfin := ((HF.out.set (show w.heap.size + 1 < w3.heap.size by omega) _).set (show w.heap.size + 1 + 1 < w3.heap.size by omega) _).calm hcc (fun j hj => (show j < w3.heap.size by omega))
      have hup : Up w ((W.setCell ⟨w.heap.size + 1, 0, none⟩ (.slice A1 pre.length c5)).setCell ⟨w.heap.size + 1 + 1, 0, none⟩ (.int .i64 0)) := by have hU := HUW.out; (repeat (first | with_reducible exact Up.refl _ | with_reducible refine Up.alloc ?_ _ | with_reducible refine Up.drew ?_ | with_reducible refine Up.drewN ?_ _ | with_reducible refine Up.setCell ?_ (by (try simp) <;> omega) _ | with_reducible assumption | with_reducible refine Up.trans ?_ (by assumption)))
      refine ⟨by simp, .inl ⟨_, _, rfl, run_takeDeferred hKV, ?_⟩⟩
      refine ⟨.tuple #[.slice A1 pre.length c5, .int .i64 0], by simp [results, Tryd.results12, go_sem, r2, r3], A1, c5, pre.map EF.rf, ?_, (hfin.low hBw).rf, ?_, hcc.up hup hBw (fun j hj => by omega)⟩
      · rw [HM.out, List.length_map]
      · rw [HM.out, bare_rf]
    all_goals exact hIx.elim
end Go.Proofs.YtfambgigdhkiaaaDoor
