/-
  sfield's All: the fields that bytes begin with, and the error. No condition but the slice's own reach.
-/
import Derived.Test.YtfambgigdhkiaaaDoorRng
namespace Go.Proofs.YtfambgigdhkiaaaDoor
open Go.RowKit Go.Shelf
set_option linter.unusedVariables false
set_option linter.unusedSimpArgs false
attribute [local go_sem] Oper.semAt_some

set_option maxRecDepth 100000 in
set_option maxHeartbeats 6400000 in
theorem sall_is {B : Nat} {A : Option Addr} {n c : Nat} {l : List Int} {w : World} (h : Sl B w A n c l) :
    Calls Tryd.prog 19 #[.slice A n c] w fun e w' => ∃ A' c' xs, e = .returned (.tuple #[.slice A' xs.length c', .int .i64 (fldsOf l).2]) ∧ FL 40 2 RF.cells RF.inn w.heap.size w' A' c' xs ∧ xs.map RF.bare = (fldsOf l).1 ∧ Up w w' := by
  obtain ⟨i0, hi, hz0, hz1, hz2⟩ := info_parts info_sf
  have HS := Lib.hid h
  clear h
  refine (callsIn_wide (n := 9)).1 ?_
  refine callsIn_of_wp_marks Tryd.func19 rfl trivial ?_ rfl
  simp only [Tryd.ntmps19, List.size_toArray, List.length_cons, List.length_nil, Nat.reduceAdd, Nat.reduceSub, Array.replicate_succ, Array.replicate_zero, List.push_toArray, List.append_toArray, List.nil_append, List.cons_append]
  refine wpIn_wide.2 ?_
  go_wp2_with fail
  refine (fields_fn _ _ _ _).mono ?_
  rintro e w3 ⟨bp, rfl, hb1, hb2, hb3, hb4, hu3⟩
  simp at hb1
  obtain ⟨k2, f2⟩ := hu3.at_ w.heap.size (by (try simp) <;> omega)
  obtain ⟨k3, f3⟩ := hu3.at_ (w.heap.size + 1) (by (try simp) <;> omega)
  obtain ⟨k4, f4⟩ := hu3.at_ (w.heap.size + 1 + 1) (by (try simp) <;> omega)
  have uw : Up w w3 := by (repeat (first | with_reducible exact Up.refl _ | with_reducible refine Up.alloc ?_ _ | with_reducible refine Up.drew ?_ | with_reducible refine Up.drewN ?_ _ | with_reducible refine Up.setCell ?_ (by (try simp) <;> omega) _ | with_reducible assumption | with_reducible refine Up.trans ?_ (by assumption)))
  have c2 : w3.cell? ⟨w.heap.size, 0, none⟩ = some (.slice none 0 0) := (k2 0).trans (by simp [go_sem])
  have c3 : w3.cell? ⟨w.heap.size + 1, 0, none⟩ = some (.int .i64 0) := (k3 0).trans (by simp [go_sem])
  have c4 : w3.cell? ⟨w.heap.size + 1 + 1, 0, none⟩ = some (.slice none 0 0) := (k4 0).trans (by simp [go_sem])
  have g2 : w3.frozen? ⟨w.heap.size, 0, none⟩ = false := (f2 0).trans (by simp [go_sem])
  have g3 : w3.frozen? ⟨w.heap.size + 1, 0, none⟩ = false := (f3 0).trans (by simp [go_sem])
  have g4 : w3.frozen? ⟨w.heap.size + 1 + 1, 0, none⟩ = false := (f4 0).trans (by simp [go_sem])
  have hit := fields_it (HS.out.up uw) hb3 hb4 (fun p hp => by have := HS.out.lt hp; omega) (fun p hp => by have := HS.out.lt hp; have := uw.size; omega)
  have HI := Lib.hid hit
  have HU := Lib.hid uw
  have hzw := hu3.size
  simp at hzw
  clear hit uw k2 k3 k4 f2 f3 f4 hu3
  have HLEN := Lib.hid (show ∀ (pre : List EF) (x : EF), (pre ++ [x]).map EF.pl <+: items l → pre.length + 1 ≤ 65536 from fun pre x hp => by
    have h1 := hp.length_le
    have h2 := items_len l.length l (Nat.le_refl _)
    have h3 := HS.out.small
    have h4 := HS.out.len
    simp at h1
    omega)
  go_wp2_with fail
  have hBw : w.heap.size ≤ w3.heap.size := HU.out.size
  refine wpIn_wide.1 (range_it (n := 9) (gf := 42) (lb := #[.pointer (some ⟨bp, 0, none⟩)]) rfl enters_fields
    (HI.out 8 w3 (fun k => k = w.heap.size ∨ k = w.heap.size + 1 ∨ k = w.heap.size + 1 + 1) (Up.refl _) (fun k hk e => by
      rcases hk with rfl | ⟨p, hp, rfl⟩
      · omega
      · have := HS.out.lt hp; omega))
    (fun k hk => by subst hk; exact hb2) (fun _ => rfl)
    (fun pre W => OutI 40 2 EF.cells EF.inn w w3.heap.size (w.heap.size + 1 + 1) [w.heap.size, w.heap.size + 1] pre W ∧ clean pre)
    (fun c xs W => match c with
      | .ret => ∃ A' c' ys, W.cell? ⟨w.heap.size, 0, none⟩ = some (.slice A' ys.length c') ∧ W.cell? ⟨w.heap.size + 1, 0, none⟩ = some (.int .i64 (fldsOf l).2) ∧ FL 40 2 EF.cells EF.inn w3.heap.size W A' c' ys ∧ ys.map EF.bare = (fldsOf l).1 ∧ Up w W
      | _ => False)
    ?still ?stillx ?start (AllAx w3 l (fun blk x => #[.slice A n c, undef, .pointer (some ⟨w.heap.size, 0, none⟩), .pointer (some ⟨w.heap.size + 1, 0, none⟩), .pointer (some ⟨w.heap.size + 1 + 1, 0, none⟩), blk, .int .i64 x.e, .slice A n c, .func (.func 42) #[] #[.pointer (some ⟨bp, 0, none⟩)], .agg #[.int .u8 x.id, .slice x.A x.l.length x.c], .int .i64 x.e, undef, undef, undef, undef, undef, undef, undef, undef, undef])) ?stilla ?assign ?body ?done ?stop)
  case still =>
    rintro pre W W' ⟨h1, h3⟩ hc
    exact ⟨h1.calm hc hBw (fun j hj => by subst hj; simp; omega), h3⟩
  case stillx =>
    intro c xs W W' h hc
    cases c
    case ret =>
      obtain ⟨A', c', ys, h1, h2, h3, h4, h5⟩ := h
      exact ⟨A', c', ys, hc.cell h1 (by omega), hc.cell h2 (by omega), h3.calm hc (fun j hj => by omega), h4, hc.up h5 hBw (fun j hj => by omega)⟩
    all_goals exact h.elim
  case start =>
    refine ⟨⟨HU.out, Nat.le_refl _, fun r hr => ?_, none, 0, c4, g4, FL.nil⟩, fun _ h => (by cases h)⟩
    simp only [List.mem_cons, List.mem_nil_iff, or_false] at hr
    rcases hr with rfl | rfl
    · exact ⟨⟨_, c2⟩, g2⟩
    · exact ⟨⟨_, c3⟩, g3⟩
  case stilla => exact fun pre x a' _ W W' h hc => h.calm hc (fun j hj => by subst hj; exact hb2)
  case assign =>
    rintro lb pre x W K ⟨hO, hc⟩ ⟨hG1, hG2⟩ hK
    have hBW := hO.2.1
    have HO := Lib.hid hO
    have HG1 := Lib.hid hG1
    have HG2 := Lib.hid hG2
    have HC := Lib.hid hc
    clear hO hG1 hG2 hc
    simp only [EF.enc]
    gi_wp2
    refine hK _ _ (KpR.of_up (show Up W _ by (repeat (first | with_reducible exact Up.refl _ | with_reducible refine Up.alloc ?_ _ | with_reducible refine Up.drew ?_ | with_reducible refine Up.drewN ?_ _ | with_reducible refine Up.setCell ?_ (by (try simp) <;> omega) _ | with_reducible assumption | with_reducible refine Up.trans ?_ (by assumption)))) hBW) ⟨HO.out.up (by (repeat (first | with_reducible exact Up.refl _ | with_reducible refine Up.alloc ?_ _ | with_reducible refine Up.drew ?_ | with_reducible refine Up.drewN ?_ _ | with_reducible refine Up.setCell ?_ (by (try simp) <;> omega) _ | with_reducible assumption | with_reducible refine Up.trans ?_ (by assumption)))), HC.out⟩ ⟨HG1.out.up (by (repeat (first | with_reducible exact Up.refl _ | with_reducible refine Up.alloc ?_ _ | with_reducible refine Up.drew ?_ | with_reducible refine Up.drewN ?_ _ | with_reducible refine Up.setCell ?_ (by (try simp) <;> omega) _ | with_reducible assumption | with_reducible refine Up.trans ?_ (by assumption)))), HG2.out, W.heap.size, hBW, ?_, ?_, rfl⟩
    · simp [go_sem]
    · simp [go_sem]
  case body =>
    rintro lb pre x a' W hl hr ⟨⟨hu, hBW, hrs, A1, c5, h4, h5, hfl⟩, hc⟩ ⟨hG1, hG2, blk, hblk, hi0, hi1, rfl⟩
    obtain ⟨⟨v2, hv2⟩, hf2⟩ := hrs (w.heap.size) (by simp)
    obtain ⟨⟨v3, hv3⟩, hf3⟩ := hrs (w.heap.size + 1) (by simp)
    have z2 := cell_lt hv2
    have z3 := cell_lt hv3
    have z4 := cell_lt h4
    have zb := cell_lt hi0
    have HF := Lib.hid hfl
    have HG1 := Lib.hid hG1
    have HG2 := Lib.hid hG2
    have HC := Lib.hid hc
    have HUW := Lib.hid hu
    have HRS := Lib.hid hrs
    have hsmall := HLEN.out pre x hG2
    have hq1 : pre.length + 1 ≤ maxLen := by simp [maxLen]; omega
    have hq2 : (pre.length + 1) * 32 ≤ 140737488355328 := by omega
    clear hfl hG1 hG2 hc hr hrs hu hsmall
    have HR3 := Lib.hid (show ∀ r ∈ [w.heap.size, w.heap.size + 1], r < w3.heap.size ∧ r ≠ w.heap.size + 1 + 1 from fun r hr => by
      simp only [List.mem_cons, List.mem_nil_iff, or_false] at hr
      rcases hr with rfl | rfl <;> omega)
    have HNE := Lib.hid (show ∀ k, k < w3.heap.size → (Value.slice A1 pre.length c5).ownBlock ≠ some k from fun k hk e => by have := own_bd HF.out.own _ e; omega)
    by_cases he : x.e = 0
    · have e0 : (x.e != 0) = false := by simpa using he
      have HE := Lib.hid (show clean (pre ++ [x]) from fun y hy => by
        rcases List.mem_append.1 hy with hy | hy
        · exact HC.out y hy
        · rw [List.mem_singleton.1 hy]; exact he)
      clear he
      gi_wp2_with (gi_at_builtin; refine wpListIn_app rfl (.tmp 15) (.tmp 17) 47 rfl w3.heap.size 40 i0 _ 2 32 Tryd.underlying47 hi hz0 hz1 hz2 rfl (by decide) A1 pre.length c5 (pre.flatMap EF.cells) rfl (own_up HF.out.own ((Up.refl W).alloc _)) (W.heap.size + 1) (some ⟨W.heap.size, 0, none⟩) 1 1 [.int .u8 x.id, .slice x.A x.l.length x.c] rfl (reads_at W W.heap.size 2 1 _ _ rfl rfl) (by simp [Value.oneCell']) hq1 hq2 (by simp; omega) ?_; intro A2 c2 w4 hown4 hg4 hle4 hmx4 hbl4; have HO4 := Lib.hid hown4; have HG4 := Lib.hid hg4; have HB4 := Lib.hid hbl4; obtain ⟨g4c, g4f⟩ := grown_at hg4 (w.heap.size + 1 + 1) (by simp; omega) (HNE.out _ (by omega)); have k4 := (g4c 0).trans ((World.cell?_alloc_lt W _ ⟨w.heap.size + 1 + 1, 0, none⟩ z4).trans h4); have kf := (g4f 0).trans ((((Up.refl W).alloc _).at_ _ z4).2 0 |>.trans h5); clear hown4 hg4 hbl4 g4c g4f)
      have hP := OutI.push (x := x) (E := (fun k => k = w.heap.size ∨ k = w.heap.size + 1 ∨ k = w.heap.size + 1 + 1)) HUW.out hBW HRS.out HF.out (show w.heap.size + 1 + 1 < w3.heap.size by omega) (by omega) HR3.out (.inr (.inr rfl)) h4 h5 ne_sf (by intro s hs; rw [show EF.inn x = [(x.A, x.c, x.l)] from rfl, List.mem_singleton] at hs; rw [hs]; exact HG1.out) HG4.out HO4.out hle4 hmx4 HB4.out
      exact ⟨hP.2, hP.1, HE.out⟩
    · have e0 : (x.e != 0) = true := by simpa using he
      have hst := Lib.hid (flds_stop HG2.out HC.out he)
      clear he
      gi_wp2
      have k3 := (cell_off (W := W) (b := w.heap.size) (b' := w.heap.size + 1) (by omega) 0 0 (.slice A1 pre.length c5)).trans hv3
      have hU := HUW.out
      refine ⟨(KpR.setCell (p := ⟨w.heap.size, 0, none⟩) (.inl (.inl rfl)) hv2).trans (KpR.setCell (p := ⟨w.heap.size + 1, 0, none⟩) (.inl (.inr (.inl rfl))) k3), A1, c5, pre, (cell_off (by omega) _ _ _).trans (World.cell?_setCell_same (h := hv2) ..), ?_, (HF.out.set (by omega) _).set (by omega) _, by rw [hst.out], by (repeat (first | with_reducible exact Up.refl _ | with_reducible refine Up.alloc ?_ _ | with_reducible refine Up.drew ?_ | with_reducible refine Up.drewN ?_ _ | with_reducible refine Up.setCell ?_ (by (try simp) <;> omega) _ | with_reducible assumption | with_reducible refine Up.trans ?_ (by assumption)))⟩
      rw [hst.out]
      exact World.cell?_setCell_same (h := k3) ..
  case done =>
    rintro Dd xs W hD2 hS ⟨⟨hu, hBW, hrs, A1, c5, h4, h5, hfl⟩, hc⟩ hK
    obtain ⟨⟨v2, hv2⟩, hf2⟩ := hrs (w.heap.size) (by simp)
    obtain ⟨⟨v3, hv3⟩, hf3⟩ := hrs (w.heap.size + 1) (by simp)
    have z2 := cell_lt hv2
    have z3 := cell_lt hv3
    have z4 := cell_lt h4
    have HF := Lib.hid hfl
    have HM := Lib.hid (flds_all hS hc)
    have HUW := Lib.hid hu
    have HKD := Lib.hid hK
    clear hfl hc hrs hu hS hK
    go_wp2
    have k3 := (cell_off (W := W) (b := w.heap.size) (b' := w.heap.size + 1) (by omega) 0 0 (.slice A1 xs.length c5)).trans hv3
    have hKV : ((W.setCell ⟨w.heap.size, 0, none⟩ (.slice A1 xs.length c5)).setCell ⟨w.heap.size + 1, 0, none⟩ (.int .i64 0)).heap[Dd]? = some (.deferred (some [])) := (Below.heap_setCell _ ⟨w.heap.size + 1, 0, none⟩ _ Dd (by show Dd ≠ w.heap.size + 1; omega)).trans ((Below.heap_setCell _ ⟨w.heap.size, 0, none⟩ _ Dd (by show Dd ≠ w.heap.size; omega)).trans HKD.out)
    have hcc : Calm w3.heap.size (fun k => k = bp) ((W.setCell ⟨w.heap.size, 0, none⟩ (.slice A1 xs.length c5)).setCell ⟨w.heap.size + 1, 0, none⟩ (.int .i64 0)) (((W.setCell ⟨w.heap.size, 0, none⟩ (.slice A1 xs.length c5)).setCell ⟨w.heap.size + 1, 0, none⟩ (.int .i64 0)).putObj Dd (.deferred none)) := Calm.putObj _ hD2 hKV rfl
    have r2 := hcc.cell ((cell_off (show w.heap.size ≠ w.heap.size + 1 by omega) _ _ _).trans (World.cell?_setCell_same (h := hv2) ..)) (show ¬ w.heap.size = bp by omega)
    have r3 := hcc.cell (World.cell?_setCell_same (h := k3) ..) (show ¬ w.heap.size + 1 = bp by omega)
    have hfin := ((HF.out.set (show w.heap.size < w3.heap.size by omega) _).set (show w.heap.size + 1 < w3.heap.size by omega) _).calm hcc (fun j hj => (show j < w3.heap.size by omega))
    have hU := HUW.out
    have hup : Up w ((W.setCell ⟨w.heap.size, 0, none⟩ (.slice A1 xs.length c5)).setCell ⟨w.heap.size + 1, 0, none⟩ (.int .i64 0)) := by (repeat (first | with_reducible exact Up.refl _ | with_reducible refine Up.alloc ?_ _ | with_reducible refine Up.drew ?_ | with_reducible refine Up.drewN ?_ _ | with_reducible refine Up.setCell ?_ (by (try simp) <;> omega) _ | with_reducible assumption | with_reducible refine Up.trans ?_ (by assumption)))
    refine ⟨by simp, .inl ⟨_, _, rfl, run_takeDeferred hKV, ?_⟩⟩
    refine ⟨.tuple #[.slice A1 xs.length c5, .int .i64 0], by simp [results, Tryd.results19, go_sem, r2, r3], A1, c5, xs.map EF.rf, by rw [HM.out, List.length_map], (hfin.low hBw).rf, by rw [HM.out, bare_rf], hcc.up hup hBw (fun j hj => by omega)⟩
  case stop =>
    rintro Dd c pre W hD2 hS hIx hK
    cases c
    case ret =>
      obtain ⟨A', c', ys, h1, h2, h3, h4, h5⟩ := hIx
      refine wpIn_wide.2 ?_
      have HF := Lib.hid h3
      have HM := Lib.hid h4
      have HUW := Lib.hid h5
      have HKD := Lib.hid hK
      clear h3 h4 h5 hK hS
      go_wp2
      have hKV := HKD.out
      have hcc : Calm w3.heap.size (fun k => k = bp) W (W.putObj Dd (.deferred none)) := Calm.putObj _ hD2 hKV rfl
      have r2 := hcc.cell h1 (show ¬ w.heap.size = bp by omega)
      have r3 := hcc.cell h2 (show ¬ w.heap.size + 1 = bp by omega)
      have hfin := HF.out.calm hcc (fun j hj => (show j < w3.heap.size by omega))
      refine ⟨by simp, .inl ⟨_, _, rfl, run_takeDeferred hKV, ?_⟩⟩
      exact ⟨.tuple #[.slice A' ys.length c', .int .i64 (fldsOf l).2], by simp [results, Tryd.results19, go_sem, r2, r3], A', c', ys.map EF.rf, by rw [List.length_map], (hfin.low hBw).rf, by rw [bare_rf]; exact HM.out, hcc.up HUW.out hBw (fun j hj => by omega)⟩
    all_goals exact hIx.elim
end Go.Proofs.YtfambgigdhkiaaaDoor

