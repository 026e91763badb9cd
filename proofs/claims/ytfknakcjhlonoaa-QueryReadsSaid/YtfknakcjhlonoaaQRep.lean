/-
  query's replies: the data of all replies in what came, or the error. No condition but the slice's own reach.
-/
import Derived.Test.YtfknakcjhlonoaaQPl
import Derived.Deep.CutRange
namespace Go.Proofs.Ytfknakcjhlonoaa
open Go.RowKit Go.Shelf
set_option linter.unusedVariables false
set_option linter.unusedSimpArgs false
attribute [local go_sem] Oper.semAt_some

theorem in1_l (xs : List EF) : (xs.map EF.in1).map (·.2.2) = xs.map EF.lst := by simp [EF.in1, EF.lst, Function.comp_def]
set_option maxRecDepth 100000 in
set_option maxHeartbeats 6400000 in
theorem replies_in {B b off m c c2 : Nat} {A2 : Option Addr} {l : List Int} {w : World} (h : Sl B w (some ⟨b, off, none⟩) (m + 1) c l) (h0 : l.getD 0 0 = 136) (hA2 : (if c = 1 then some ⟨b, off, none⟩ else some ⟨b, off + 1, none⟩) = A2) (hc2 : c - 1 = c2) :
    Calls Try.prog 24 #[.slice (some ⟨b, off, none⟩) (m + 1) c] w (RepPost w (repsR (fldsOf (l.drop 1)).1 (fldsOf (l.drop 1)).2)) := by
  obtain ⟨i0, hi, hz0, hz1, hz2⟩ := info_parts info_bb
  have hcell := h.cell (i := 0) (by omega)
  have hbw : b < w.heap.size := h.lt rfl
  rw [h0, Nat.add_zero] at hcell
  have hm0 : ((m : Int) + 1 == 0) = false := by simp; omega
  have hcap := h.cap
  have hmx := h.mx
  have hcm : (c : Int) ≤ 9223372036854775807 := by simp [maxLen] at hmx; omega
  have hcut := h.cut (k := 1) (by omega)
  obtain ⟨l1, hl1⟩ : ∃ l1, l.drop 1 = l1 := ⟨_, rfl⟩
  rw [hl1] at hcut ⊢
  obtain ⟨R, hR⟩ : ∃ R, repsR (fldsOf l1).1 (fldsOf l1).2 = R := ⟨_, rfl⟩
  rw [hR]
  have HS := Lib.hid (show Sl B w A2 m c2 l1 by
    rw [← hA2, ← hc2]
    exact hcut)
  have HR := Lib.hid hR
  have HA2 := Lib.hid hA2
  have HC2 := Lib.hid hc2
  clear h h0 hmx hA2 hcut hl1 hR hc2
  refine (callsIn_wide (n := 9)).1 ?_
  refine callsIn_of_wp_marks Try.func24 rfl trivial ?_ rfl
  simp only [Try.ntmps24, List.size_toArray, List.length_cons, List.length_nil, Nat.reduceAdd, Nat.reduceSub, Array.replicate_succ, Array.replicate_zero, List.push_toArray, List.append_toArray, List.nil_append, List.cons_append]
  refine wpIn_wide.2 ?_
  go_upto_region 6 with (fail)
  go_cut [17, 18] from 17 to 18 (fun v17 v18 w3 => v17 = .slice A2 m c2 ∧ ∃ bp, v18 = .func (.func 40) #[] #[.pointer (some ⟨bp, 0, none⟩)] ∧ w.heap.size + 1 + 1 + 1 ≤ bp ∧ bp < w3.heap.size ∧ w3.cell? ⟨bp, 0, none⟩ = some (.slice A2 m c2) ∧ w3.frozen? ⟨bp, 0, none⟩ = false ∧ Up w w3 ∧ (w3.cell? ⟨w.heap.size, 0, none⟩ = some (.slice none 0 0) ∧ w3.cell? ⟨w.heap.size + 1, 0, none⟩ = some (.int .i64 0) ∧ w3.cell? ⟨w.heap.size + 1 + 1, 0, none⟩ = some (.slice none 0 0)) ∧ w3.frozen? ⟨w.heap.size, 0, none⟩ = false ∧ w3.frozen? ⟨w.heap.size + 1, 0, none⟩ = false ∧ w3.frozen? ⟨w.heap.size + 1 + 1, 0, none⟩ = false)
  case first =>
    by_cases hc1 : c = 1
    · have ha := HA2.out
      rw [if_pos hc1] at ha
      have hm9 : m = 0 := by omega
      have hc9 := HC2.out
      subst hc1 hm9 hc9 ha
      clear HA2 HC2
      go_wp2_with fail
      refine (fields_fn _ _ _ _).mono ?_
      rintro e w3 ⟨bp, rfl, hb1, hb2, hb3, hb4, hu3⟩
      simp at hb1
      obtain ⟨k2, f2⟩ := hu3.at_ w.heap.size (by (try simp) <;> omega)
      obtain ⟨k3, f3⟩ := hu3.at_ (w.heap.size + 1) (by (try simp) <;> omega)
      obtain ⟨k4, f4⟩ := hu3.at_ (w.heap.size + 1 + 1) (by (try simp) <;> omega)
      have uw := Lib.hid (show Up w w3 by (repeat (first | with_reducible exact Up.refl _ | with_reducible refine Up.alloc ?_ _ | with_reducible refine Up.drew ?_ | with_reducible refine Up.drewN ?_ _ | with_reducible refine Up.setCell ?_ (by (try simp) <;> omega) _ | with_reducible assumption | with_reducible refine Up.trans ?_ (by assumption))))
      have q2 := Lib.hid ((k2 0).trans (by simp [go_sem] : _ = some (.slice none 0 0)))
      have q3 := Lib.hid ((k3 0).trans (by simp [go_sem] : _ = some (.int .i64 0)))
      have q4 := Lib.hid ((k4 0).trans (by simp [go_sem] : _ = some (.slice none 0 0)))
      have g2 := Lib.hid ((f2 0).trans (by simp [go_sem] : _ = false))
      have g3 := Lib.hid ((f3 0).trans (by simp [go_sem] : _ = false))
      have g4 := Lib.hid ((f4 0).trans (by simp [go_sem] : _ = false))
      have B1 := Lib.hid hb1
      have B3 := Lib.hid hb3
      have B4 := Lib.hid hb4
      clear k2 k3 k4 f2 f3 f4 hu3 hb1 hb3 hb4
      go_wp2_with fail
      go_meet
      case rel => exact ⟨rfl, bp, rfl, B1.out, hb2, B3.out, B4.out, uw.out, ⟨q2.out, q3.out, q4.out⟩, g2.out, g3.out, g4.out⟩
    · have ha := HA2.out
      rw [if_neg hc1] at ha
      have hc9 := HC2.out
      subst hc9 ha
      clear HA2 HC2
      go_wp2_with fail
      refine (fields_fn _ _ _ _).mono ?_
      rintro e w3 ⟨bp, rfl, hb1, hb2, hb3, hb4, hu3⟩
      simp at hb1
      obtain ⟨k2, f2⟩ := hu3.at_ w.heap.size (by (try simp) <;> omega)
      obtain ⟨k3, f3⟩ := hu3.at_ (w.heap.size + 1) (by (try simp) <;> omega)
      obtain ⟨k4, f4⟩ := hu3.at_ (w.heap.size + 1 + 1) (by (try simp) <;> omega)
      have uw := Lib.hid (show Up w w3 by (repeat (first | with_reducible exact Up.refl _ | with_reducible refine Up.alloc ?_ _ | with_reducible refine Up.drew ?_ | with_reducible refine Up.drewN ?_ _ | with_reducible refine Up.setCell ?_ (by (try simp) <;> omega) _ | with_reducible assumption | with_reducible refine Up.trans ?_ (by assumption))))
      have q2 := Lib.hid ((k2 0).trans (by simp [go_sem] : _ = some (.slice none 0 0)))
      have q3 := Lib.hid ((k3 0).trans (by simp [go_sem] : _ = some (.int .i64 0)))
      have q4 := Lib.hid ((k4 0).trans (by simp [go_sem] : _ = some (.slice none 0 0)))
      have g2 := Lib.hid ((f2 0).trans (by simp [go_sem] : _ = false))
      have g3 := Lib.hid ((f3 0).trans (by simp [go_sem] : _ = false))
      have g4 := Lib.hid ((f4 0).trans (by simp [go_sem] : _ = false))
      have B1 := Lib.hid hb1
      have B3 := Lib.hid hb3
      have B4 := Lib.hid hb4
      clear k2 k3 k4 f2 f3 f4 hu3 hb1 hb3 hb4
      go_wp2_with fail
      go_meet
      case rel => exact ⟨rfl, bp, rfl, B1.out, hb2, B3.out, B4.out, uw.out, ⟨q2.out, q3.out, q4.out⟩, g2.out, g3.out, g4.out⟩
  case rest =>
    obtain ⟨rfl, bp, rfl, hb1, hb2, hb3, hb4, uw, ⟨c2', c3', c4⟩, g2, g3, g4⟩ := hcut
    obtain ⟨w3, hw3⟩ : ∃ w3, wc = w3 := ⟨_, rfl⟩
    rw [hw3] at hb2 hb3 hb4 uw c2' c3' c4 g2 g3 g4
    have hit := fields_it (HS.out.up uw) hb3 hb4 (fun p hp => by have := HS.out.lt hp; omega) (fun p hp => by have := HS.out.lt hp; have := uw.size; omega)
    have HI := Lib.hid hit
    have HU := Lib.hid uw
    have hzw : w.heap.size + 1 + 1 + 1 ≤ w3.heap.size := by omega
    rw [hw3]
    clear hit uw hw3
    have HLEN := Lib.hid (show ∀ (pre : List EF) (x : EF), (pre ++ [x]).map EF.pl <+: items l1 → pre.length + 1 ≤ 65536 from fun pre x hp => by
      have h1 := hp.length_le
      have h2 := items_len l1.length l1 (Nat.le_refl _)
      have h3 := HS.out.small
      have h4 := HS.out.len
      simp at h1
      omega)
    go_wp2_with fail
    have hBw : w.heap.size ≤ w3.heap.size := HU.out.size
    refine wpIn_wide.1 (range_it (n := 9) (gf := 40) (lb := #[.pointer (some ⟨bp, 0, none⟩)]) rfl enters_fields
      (HI.out 8 w3 (fun k => k = w.heap.size ∨ k = w.heap.size + 1 ∨ k = w.heap.size + 1 + 1) (Up.refl _) (fun k hk e => by
        rcases hk with rfl | ⟨p, hp, rfl⟩
        · omega
        · have := HS.out.lt hp; omega))
      (fun k hk => by subst hk; exact hb2) (fun _ => rfl)
      (fun pre W => OutI 22 1 EF.cel EF.inn w w3.heap.size (w.heap.size + 1 + 1) [w.heap.size, w.heap.size + 1] pre W ∧ clean pre ∧ okR pre)
      (fun c xs W => match c with
        | .ret => ∃ A' c' ys, W.cell? ⟨w.heap.size, 0, none⟩ = some (.slice A' ys.length c') ∧ W.cell? ⟨w.heap.size + 1, 0, none⟩ = some (.int .i64 R.2) ∧ FL 22 1 EF.cel EF.inn w3.heap.size W A' c' ys ∧ ys.map EF.lst = R.1 ∧ Up w W
        | _ => False)
      ?still ?stillx ?start (AllAx w3 l1 (fun blk x => #[.slice (some ⟨b, off, none⟩) (m + 1) c, undef, .pointer (some ⟨w.heap.size, 0, none⟩), .pointer (some ⟨w.heap.size + 1, 0, none⟩), .pointer (some ⟨w.heap.size + 1 + 1, 0, none⟩), blk, .int .i64 x.e, .bool false, .slice (some ⟨b, off, none⟩) (m + 1) c, .int .i64 ((m : Int) + 1), .bool false, .bool false, .slice (some ⟨b, off, none⟩) (m + 1) c, .pointer (some ⟨b, off, none⟩), .int .u8 136, .bool false, u16, .slice A2 m c2, .func (.func 40) #[] #[.pointer (some ⟨bp, 0, none⟩)], .agg #[.int .u8 x.id, .slice x.A x.l.length x.c], .int .i64 x.e, undef, undef, undef, undef, undef, undef, undef, undef, undef, undef, undef, undef, undef, undef, undef, undef, undef, undef, undef, undef])) ?stilla ?assign ?body ?done ?stop)
    case still =>
      rintro pre W W' ⟨h1, h3, h3'⟩ hc
      exact ⟨h1.calm hc hBw (fun j hj => by subst hj; simp; omega), h3, h3'⟩
    case stillx =>
      intro c xs W W' h hc
      cases c
      case ret =>
        obtain ⟨A', c', ys, h1, h2, h3, h4, h5⟩ := h
        exact ⟨A', c', ys, hc.cell h1 (by omega), hc.cell h2 (by omega), h3.calm hc (fun j hj => by omega), h4, hc.up h5 hBw (fun j hj => by omega)⟩
      all_goals exact h.elim
    case start =>
      refine ⟨⟨HU.out, Nat.le_refl _, fun r hr => ?_, none, 0, c4, g4, FL.nil⟩, fun _ h => (by cases h), fun _ h => (by cases h)⟩
      simp only [List.mem_cons, List.mem_nil_iff, or_false] at hr
      rcases hr with rfl | rfl
      · exact ⟨⟨_, c2'⟩, g2⟩
      · exact ⟨⟨_, c3'⟩, g3⟩
    case stilla => exact fun pre x a' _ W W' h hc => h.calm hc (fun j hj => by subst hj; exact hb2)
    case assign =>
      rintro lb pre x W K ⟨hO, hc, hgd⟩ ⟨hG1, hG2⟩ hK
      have hBW := hO.2.1
      have HO := Lib.hid hO
      have HG1 := Lib.hid hG1
      have HG2 := Lib.hid hG2
      have HC := Lib.hid hc
      have HGD := Lib.hid hgd
      clear hO hG1 hG2 hc hgd
      simp only [EF.enc]
      gi_wp2
      refine hK _ _ (KpR.of_up (show Up W _ by (repeat (first | with_reducible exact Up.refl _ | with_reducible refine Up.alloc ?_ _ | with_reducible refine Up.drew ?_ | with_reducible refine Up.drewN ?_ _ | with_reducible refine Up.setCell ?_ (by (try simp) <;> omega) _ | with_reducible assumption | with_reducible refine Up.trans ?_ (by assumption)))) hBW) ⟨HO.out.up (by (repeat (first | with_reducible exact Up.refl _ | with_reducible refine Up.alloc ?_ _ | with_reducible refine Up.drew ?_ | with_reducible refine Up.drewN ?_ _ | with_reducible refine Up.setCell ?_ (by (try simp) <;> omega) _ | with_reducible assumption | with_reducible refine Up.trans ?_ (by assumption)))), HC.out, HGD.out⟩ ⟨HG1.out.up (by (repeat (first | with_reducible exact Up.refl _ | with_reducible refine Up.alloc ?_ _ | with_reducible refine Up.drew ?_ | with_reducible refine Up.drewN ?_ _ | with_reducible refine Up.setCell ?_ (by (try simp) <;> omega) _ | with_reducible assumption | with_reducible refine Up.trans ?_ (by assumption)))), HG2.out, W.heap.size, hBW, ?_, ?_, rfl⟩
      · simp [go_sem]
      · simp [go_sem]
    case body =>
      rintro lb pre x a' W hl hr ⟨⟨hu, hBW, hrs, A1, c5, h4, h5, hfl⟩, hc, hgd⟩ ⟨hG1, hG2, blk, hblk, hi0, hi1, rfl⟩
      obtain ⟨⟨v2, hv2⟩, hf2⟩ := hrs (w.heap.size) (by simp)
      obtain ⟨⟨v3, hv3⟩, hf3⟩ := hrs (w.heap.size + 1) (by simp)
      have z2 := cell_lt hv2
      have z3 := cell_lt hv3
      have z4 := cell_lt h4
      have zb := cell_lt hi0
      have HF := Lib.hid hfl
      have HG1 := Lib.hid hG1
      have HG2 := Lib.hid hG2
      have HC := Lib.hid hc
      have HGD := Lib.hid hgd
      have HUW := Lib.hid hu
      have HRS := Lib.hid hrs
      have hsmall := HLEN.out pre x hG2
      have hq1 : pre.length + 1 ≤ maxLen := by simp [maxLen]; omega
      have hq2 : (pre.length + 1) * 24 ≤ 140737488355328 := by omega
      clear hfl hG1 hG2 hc hgd hr hrs hu hsmall
      have HR3 := Lib.hid (show ∀ r ∈ [w.heap.size, w.heap.size + 1], r < w3.heap.size ∧ r ≠ w.heap.size + 1 + 1 from fun r hr => by
        simp only [List.mem_cons, List.mem_nil_iff, or_false] at hr
        rcases hr with rfl | rfl <;> omega)
      have HNE := Lib.hid (show ∀ k, k < w3.heap.size → (Value.slice A1 pre.length c5).ownBlock ≠ some k from fun k hk e => by have := own_bd HF.out.own _ e; omega)
      by_cases he : x.e = 0
      · have e0 : (x.e != 0) = false := by simpa using he
        have HE := Lib.hid (show clean (pre ++ [x]) from fun y hy => by
          rcases List.mem_append.1 hy with hy | hy
          · exact HC.out y hy
          · rw [List.mem_singleton.1 hy]; exact he)
        by_cases hb : badR x.bare = true
        · have hb' : badR x.bare = true := hb
          have hbad : ((x.id != 129) = true) ∨ ((x.id != 129) = false ∧ ((x.l.length : Int) == 0) = true) := by
            unfold badR EF.bare at hb'
            cases h1 : (x.id != 129)
            · rw [h1] at hb'; right; exact ⟨rfl, by simpa using hb'⟩
            · left; rfl
          have hst := Lib.hid ((HR.out).symm.trans (reps_bad HG2.out HC.out he hb'))
          have hU := HUW.out
          have k3 := (cell_off (W := W) (b := w.heap.size) (b' := w.heap.size + 1) (by omega) 0 0 (.slice none 0 0)).trans hv3
          clear he hb hb'
          rcases hbad with h1 | ⟨h1, h2⟩
          all_goals
            gi_wp2
            refine ⟨(KpR.setCell (p := ⟨w.heap.size, 0, none⟩) (.inl (.inl rfl)) hv2).trans (KpR.setCell (p := ⟨w.heap.size + 1, 0, none⟩) (.inl (.inr (.inl rfl))) k3), none, 0, [], (cell_off (by omega) _ _ _).trans (World.cell?_setCell_same (h := hv2) ..), ?_, FL.nil, by rw [hst.out]; rfl, by (repeat (first | with_reducible exact Up.refl _ | with_reducible refine Up.alloc ?_ _ | with_reducible refine Up.drew ?_ | with_reducible refine Up.drewN ?_ _ | with_reducible refine Up.setCell ?_ (by (try simp) <;> omega) _ | with_reducible assumption | with_reducible refine Up.trans ?_ (by assumption)))⟩
            rw [hst.out]
            exact World.cell?_setCell_same (h := k3) ..
        · have hb' : badR x.bare = false := by simpa using hb
          have h12 : (x.id != 129) = false ∧ ((x.l.length : Int) == 0) = false := by
            unfold badR EF.bare at hb'
            simp only [Bool.or_eq_false_iff] at hb'
            refine ⟨hb'.1, ?_⟩
            have := hb'.2
            simp at this ⊢
            exact this
          obtain ⟨h1, h2⟩ := h12
          have HB9 := Lib.hid (show okR (pre ++ [x]) from fun y hy => by
            rcases List.mem_append.1 hy with hy | hy
            · exact HGD.out y hy
            · rw [List.mem_singleton.1 hy]; exact hb')
          clear he hb hb'
          gi_wp2_with (gi_at_builtin; refine wpListIn_app rfl (.tmp 35) (.tmp 38) 55 rfl w3.heap.size 22 i0 _ 1 24 Try.underlying55 hi hz0 hz1 hz2 rfl (by decide) A1 pre.length c5 (pre.flatMap EF.cel) rfl (own_up HF.out.own ((Up.refl W).alloc _)) (W.heap.size + 1) (some ⟨W.heap.size, 0, none⟩) 1 1 [.slice x.A x.l.length x.c] rfl (reads_at W W.heap.size 1 1 _ _ rfl rfl) (by simp [Value.oneCell']) hq1 hq2 (by simp; omega) ?_; intro A2 c2 w4 hown4 hg4 hle4 hmx4 hbl4; have HO4 := Lib.hid hown4; have HG4 := Lib.hid hg4; have HB4 := Lib.hid hbl4; obtain ⟨g4c, g4f⟩ := grown_at hg4 (w.heap.size + 1 + 1) (by simp; omega) (HNE.out _ (by omega)); have k4 := (g4c 0).trans ((World.cell?_alloc_lt W _ ⟨w.heap.size + 1 + 1, 0, none⟩ z4).trans h4); have kf := (g4f 0).trans ((((Up.refl W).alloc _).at_ _ z4).2 0 |>.trans h5); clear hown4 hg4 hbl4 g4c g4f)
          have hP := OutI.push (x := x) (E := (fun k => k = w.heap.size ∨ k = w.heap.size + 1 ∨ k = w.heap.size + 1 + 1)) HUW.out hBW HRS.out HF.out (show w.heap.size + 1 + 1 < w3.heap.size by omega) (by omega) HR3.out (.inr (.inr rfl)) h4 h5 ne_bb (by intro s hs; rw [show EF.inn x = [(x.A, x.c, x.l)] from rfl, List.mem_singleton] at hs; rw [hs]; exact HG1.out) HG4.out HO4.out hle4 hmx4 HB4.out
          exact ⟨hP.2, hP.1, HE.out, HB9.out⟩
      · have e0 : (x.e != 0) = true := by simpa using he
        have hst := Lib.hid ((HR.out).symm.trans (reps_stop HG2.out HC.out HGD.out he))
        clear he
        have hU := HUW.out
        gi_wp2
        have k3 := (cell_off (W := W) (b := w.heap.size) (b' := w.heap.size + 1) (by omega) 0 0 (.slice none 0 0)).trans hv3
        refine ⟨(KpR.setCell (p := ⟨w.heap.size, 0, none⟩) (.inl (.inl rfl)) hv2).trans (KpR.setCell (p := ⟨w.heap.size + 1, 0, none⟩) (.inl (.inr (.inl rfl))) k3), none, 0, [], (cell_off (by omega) _ _ _).trans (World.cell?_setCell_same (h := hv2) ..), ?_, FL.nil, by rw [hst.out]; rfl, by (repeat (first | with_reducible exact Up.refl _ | with_reducible refine Up.alloc ?_ _ | with_reducible refine Up.drew ?_ | with_reducible refine Up.drewN ?_ _ | with_reducible refine Up.setCell ?_ (by (try simp) <;> omega) _ | with_reducible assumption | with_reducible refine Up.trans ?_ (by assumption)))⟩
        rw [hst.out]
        exact World.cell?_setCell_same (h := k3) ..
    case done =>
      rintro Dd xs W hD2 hS ⟨⟨hu, hBW, hrs, A1, c5, h4, h5, hfl⟩, hc, hgd⟩ hK
      obtain ⟨⟨v2, hv2⟩, hf2⟩ := hrs (w.heap.size) (by simp)
      obtain ⟨⟨v3, hv3⟩, hf3⟩ := hrs (w.heap.size + 1) (by simp)
      have z2 := cell_lt hv2
      have z3 := cell_lt hv3
      have z4 := cell_lt h4
      have HF := Lib.hid hfl
      have HM := Lib.hid ((HR.out).symm.trans (reps_all hS hc hgd))
      have HUW := Lib.hid hu
      have HKD := Lib.hid hK
      clear hfl hc hgd hrs hu hS hK
      go_wp2
      have k3 := (cell_off (W := W) (b := w.heap.size) (b' := w.heap.size + 1) (by omega) 0 0 (.slice A1 xs.length c5)).trans hv3
      have hKV : ((W.setCell ⟨w.heap.size, 0, none⟩ (.slice A1 xs.length c5)).setCell ⟨w.heap.size + 1, 0, none⟩ (.int .i64 0)).heap[Dd]? = some (.deferred (some [])) := (Below.heap_setCell _ ⟨w.heap.size + 1, 0, none⟩ _ Dd (by show Dd ≠ w.heap.size + 1; omega)).trans ((Below.heap_setCell _ ⟨w.heap.size, 0, none⟩ _ Dd (by show Dd ≠ w.heap.size; omega)).trans HKD.out)
      have hcc : Calm w3.heap.size (fun k => k = bp) ((W.setCell ⟨w.heap.size, 0, none⟩ (.slice A1 xs.length c5)).setCell ⟨w.heap.size + 1, 0, none⟩ (.int .i64 0)) (((W.setCell ⟨w.heap.size, 0, none⟩ (.slice A1 xs.length c5)).setCell ⟨w.heap.size + 1, 0, none⟩ (.int .i64 0)).putObj Dd (.deferred none)) := Calm.putObj _ hD2 hKV rfl
      have r2 := hcc.cell ((cell_off (show w.heap.size ≠ w.heap.size + 1 by omega) _ _ _).trans (World.cell?_setCell_same (h := hv2) ..)) (show ¬ w.heap.size = bp by omega)
      have r3 := hcc.cell (World.cell?_setCell_same (h := k3) ..) (show ¬ w.heap.size + 1 = bp by omega)
      have hfin := ((HF.out.set (show w.heap.size < w3.heap.size by omega) _).set (show w.heap.size + 1 < w3.heap.size by omega) _).calm hcc (fun j hj => (show j < w3.heap.size by omega))
      have hU := HUW.out
      have hup : Up w ((W.setCell ⟨w.heap.size, 0, none⟩ (.slice A1 xs.length c5)).setCell ⟨w.heap.size + 1, 0, none⟩ (.int .i64 0)) := by (repeat (first | with_reducible exact Up.refl _ | with_reducible refine Up.alloc ?_ _ | with_reducible refine Up.drew ?_ | with_reducible refine Up.drewN ?_ _ | with_reducible refine Up.setCell ?_ (by (try simp) <;> omega) _ | with_reducible assumption | with_reducible refine Up.trans ?_ (by assumption)))
      refine ⟨by simp, .inl ⟨_, _, rfl, run_takeDeferred hKV, ?_⟩⟩
      refine ⟨.tuple #[.slice A1 xs.length c5, .int .i64 0], by simp [results, Try.results24, go_sem, r2, r3], A1, c5, xs.map EF.in1, by rw [HM.out, List.length_map], (hfin.low hBw).in1, by rw [HM.out]; exact in1_l xs, hcc.up hup hBw (fun j hj => by omega)⟩
    case stop =>
      rintro Dd c pre W hD2 hS hIx hK
      cases c
      case ret =>
        obtain ⟨A', c', ys, h1, h2, h3, h4, h5⟩ := hIx
        refine wpIn_wide.2 ?_
        have HF := Lib.hid h3
        have HM := Lib.hid h4
        have HUW := Lib.hid h5
        have HKD := Lib.hid hK
        clear h3 h4 h5 hK hS
        go_wp2
        have hKV := HKD.out
        have hcc : Calm w3.heap.size (fun k => k = bp) W (W.putObj Dd (.deferred none)) := Calm.putObj _ hD2 hKV rfl
        have r2 := hcc.cell h1 (show ¬ w.heap.size = bp by omega)
        have r3 := hcc.cell h2 (show ¬ w.heap.size + 1 = bp by omega)
        have hfin := HF.out.calm hcc (fun j hj => (show j < w3.heap.size by omega))
        refine ⟨by simp, .inl ⟨_, _, rfl, run_takeDeferred hKV, ?_⟩⟩
        exact ⟨.tuple #[.slice A' ys.length c', .int .i64 R.2], by simp [results, Try.results24, go_sem, r2, r3], A', c', ys.map EF.in1, by rw [List.length_map], (hfin.low hBw).in1, (in1_l ys).trans HM.out, hcc.up HUW.out hBw (fun j hj => by omega)⟩
      all_goals exact hIx.elim
/-- query's replies -/
theorem replies_is {B n c : Nat} {A : Option Addr} {l : List Int} {w : World} (h : Sl B w A n c l) :
    Calls Try.prog 24 #[.slice A n c] w (RepPost w (repsOf l)) := by
  have hl := h.len
  cases n with
  | zero =>
    have e : repsOf l = ([], 2) := by unfold repsOf; rw [if_pos hl]
    rw [e]
    clear h hl e
    go_enter Try.func24, Try.ntmps24
    go_wp2_with fail
    exact bodyPost_ret (v := .tuple #[.slice none 0 0, .int .i64 2]) (by simp [results, Try.results24, go_sem]) rfl (RepPost.none_ rfl (by (repeat (first | with_reducible exact Up.refl _ | with_reducible refine Up.alloc ?_ _ | with_reducible refine Up.drew ?_ | with_reducible refine Up.drewN ?_ _ | with_reducible refine Up.setCell ?_ (by (try simp) <;> omega) _ | with_reducible assumption | with_reducible refine Up.trans ?_ (by assumption)))))
  | succ m =>
    obtain ⟨b, off, rfl, hb⟩ := h.form (by omega)
    by_cases hv : l.getD 0 0 = 136
    · have e : repsOf l = repsR (fldsOf (l.drop 1)).1 (fldsOf (l.drop 1)).2 := by unfold repsOf; rw [if_neg (by omega), if_neg (by simpa using hv)]
      rw [e]
      exact replies_in h hv rfl rfl
    · have e : repsOf l = ([], 4) := by unfold repsOf; rw [if_neg (by omega), if_pos hv]
      rw [e]
      have hcell := h.cell (i := 0) (by omega)
      obtain ⟨v, hvv⟩ : ∃ v, l.getD 0 0 = v := ⟨_, rfl⟩
      rw [hvv] at hcell hv
      rw [Nat.add_zero] at hcell
      have e1 : (v != 136) = true := by simpa using hv
      have hm0 : ((m : Int) + 1 == 0) = false := by simp; omega
      have hcm : (m + 1 : Nat) ≤ 65536 := h.small
      clear h hl e hv hvv
      go_enter Try.func24, Try.ntmps24
      go_wp2_with fail
      exact bodyPost_ret (v := .tuple #[.slice none 0 0, .int .i64 4]) (by simp [results, Try.results24, go_sem]) rfl (RepPost.none_ rfl (by (repeat (first | with_reducible exact Up.refl _ | with_reducible refine Up.alloc ?_ _ | with_reducible refine Up.drew ?_ | with_reducible refine Up.drewN ?_ _ | with_reducible refine Up.setCell ?_ (by (try simp) <;> omega) _ | with_reducible assumption | with_reducible refine Up.trans ?_ (by assumption)))))
end Go.Proofs.Ytfknakcjhlonoaa
