/-
  The law's attrs: the first ones, at most so many; a prefix of a row of cells. No condition.
-/
import Derived.Test.YtjokcfenncogkaaEqI
namespace Go.Proofs.Ytjokcfenncogkaa
open Go.RowKit Go.Shelf
set_option linter.unusedVariables false
set_option linter.unusedSimpArgs false
attribute [local go_sem] Oper.semAt_some

theorem CellsAt.take {w : World} {g : Nat} {L K : List Cl} (h : CellsAt w g L) (k : Nat) (hK : L.take k = K) : CellsAt w g K := by
  subst hK
  refine ⟨h.1, h.2.1, fun j c hj => h.2.2 j c ?_⟩
  rw [List.getElem?_take] at hj
  split at hj
  · exact hj
  · cases hj
theorem pre_take {L : List Int} {a : List Int} (h : a <+: L) : L.take a.length = a := (List.prefix_iff_eq_take.1 h).symm
set_option maxRecDepth 100000 in
set_option maxHeartbeats 6400000 in
theorem lattrs_is {p g most : Nat} {X : Spc} {w : World} {K : List Int} (hs : SAt w p g X) (ok : X.Ok) (h1 : 0 < most) (h2 : most ≤ 1000) (hKK : X.attrs.take most = K) :
    Calls Try.prog 72 #[.pointer (some ⟨p, 0, none⟩), .int .i64 (most : Int)] w fun e w' => ∃ A c, e = .returned (.slice A K.length c) ∧ OwnI w.heap.size w' A K.length c K ∧ Up w w' := by
  have HKK := Lib.hid hKK
  clear hKK
  obtain ⟨i0, hi, hz0, hz1, hz2⟩ := info_parts info_i64
  have HS := Lib.hid hs
  have HO := Lib.hid ok
  have hsm := ok.small
  have HAT := Lib.hid (those_len (isAt X.L) X.L.length)
  obtain ⟨m, hm⟩ : ∃ m, X.L.length = m := ⟨_, rfl⟩
  have HM := Lib.hid hm
  rw [hm] at hsm
  clear hs ok hm
  refine (callsIn_wide (n := 9)).1 ?_
  refine callsIn_of_wp_marks Try.func72 rfl trivial ?_ rfl
  simp only [Try.ntmps72, List.size_toArray, List.length_cons, List.length_nil, Nat.reduceAdd, Nat.reduceSub, Array.replicate_succ, Array.replicate_zero, List.push_toArray, List.append_toArray, List.nil_append, List.cons_append]
  refine wpIn_wide.2 ?_
  go_wp2_with fail
  refine (attrs_val _ _).mono ?_
  rintro e w3 ⟨b2, rfl, hb2, hb2', hc2, -, hu3⟩
  simp at hb2
  obtain ⟨k1, f1⟩ := hu3.at_ w.heap.size (by (try simp) <;> omega)
  obtain ⟨k2, f2⟩ := hu3.at_ (w.heap.size + 1) (by (try simp) <;> omega)
  have uw : Up w w3 := by (repeat (first | with_reducible exact Up.refl _ | with_reducible refine Up.alloc ?_ _ | with_reducible refine Up.drew ?_ | with_reducible refine Up.drewN ?_ _ | with_reducible refine Up.setCell ?_ (by (try simp) <;> omega) _ | with_reducible assumption | with_reducible refine Up.trans ?_ (by assumption)))
  have c1 : w3.cell? ⟨w.heap.size, 0, none⟩ = some (.int .i64 (most : Int)) := (k1 0).trans (by simp [go_sem])
  have c2 : w3.cell? ⟨w.heap.size + 1, 0, none⟩ = some (.slice none 0 0) := (k2 0).trans (by simp [go_sem])
  have g2 : w3.frozen? ⟨w.heap.size + 1, 0, none⟩ = false := (f2 0).trans (by simp [go_sem])
  have hzw := hu3.size
  simp at hzw
  have HU := Lib.hid uw
  have HC1 := Lib.hid c1
  have HC2 := Lib.hid hc2
  clear k1 k2 f1 f2 hu3 uw hc2
  go_wp2_with fail
  clear c1
  refine wpIn_wide.1 (range_n (n := 9) (gf := 157) (lb := #[.pointer (some ⟨b2, 0, none⟩)]) rfl enters_attrs (attrs_it (p := p) (m := m) (b := b2) (f := isAt X.L) (Q := fun Y => Y.L = X.L) (fun Y hY k _ => by rw [hY])) (fun _ => rfl)
    (fun _ => False) (fun k hk => hk.elim) (fun k hk => hk.elim) (fun _ _ => trivial)
    (fun N pre W => OutB (fun k => k = w.heap.size + 1) w3 w3.heap.size (w.heap.size + 1) N pre W ∧ pre.length < most)
    (fun c N xs W => match c with
      | .exit id => id = 0 ∧ OutB (fun k => k = w.heap.size + 1) w3 w3.heap.size (w.heap.size + 1) N xs W ∧ xs <+: X.attrs ∧ xs.length = most
      | _ => False)
    (fun N N' s A A' h hk hn => ⟨OutB.own N N' _ A A' h.1 hk hn, h.2⟩) ?ownx ?see ?start
    (fun pre x a' N W' => pre ++ [x] <+: X.attrs ∧ a' = { tmps := #[.pointer (some ⟨p, 0, none⟩), .int .i64 (most : Int), undef, .pointer (some ⟨w.heap.size, 0, none⟩), .slice none 0 0, .pointer (some ⟨w.heap.size + 1, 0, none⟩), .int .i64 x, .pointer (some ⟨p, 0, none⟩), .func (.func 157) #[] #[.pointer (some ⟨b2, 0, none⟩)], .int .i64 x, undef, undef, undef, undef, undef, undef, undef, undef, undef], defers := [] })
    (fun _ _ _ _ _ _ _ _ h _ _ => h) ?assign ?body ?done ?stop)
  case ownx =>
    intro c N N' xs A A' h hk hn
    cases c
    case exit id => exact ⟨h.1, OutB.own N N' _ A A' h.2.1 hk hn, h.2.2⟩
    all_goals exact h.elim
  case see =>
    rintro N pre W ⟨h1, h2⟩
    have hsw := HS.out.up HU.out
    have hlt := HS.out.lt
    have hlg := HS.out.cells.2.1
    exact ⟨g, X, hsw.held h1.up (by omega) (by omega), HO.out, HM.out, rfl, ((h1.up.at_ b2 (by omega) (by omega)).1 0).trans HC2.out⟩
  case start => exact ⟨⟨Keep.refl _ _, ⟨none, 0, 0, c2, g2, OwnI.nil _ _, fun p hp => by cases hp⟩, fun h => h, fun k h => h.elim, Nat.le_refl _⟩, h1⟩
  case assign =>
    rintro l N pre x W K hz hI hG hK
    have HI := Lib.hid hI
    have HG := Lib.hid (show pre ++ [x] <+: X.attrs by unfold Spc.attrs; rw [HM.out]; exact hG)
    clear hI hG
    gi_wp2
    exact hK _ _ (Held.refl _ _) HI.out ⟨HG.out, rfl⟩
  case body =>
    rintro l N pre x a' W hl hr hz ⟨hI, hT2⟩ ⟨hT1, rfl⟩
    have HI := Lib.hid hI
    obtain ⟨A, n, c0, q1, q2, q3, q5⟩ := hI.ex
    have hlen := hT2
    have hn := q3.len
    subst hn
    have zo := cell_lt q1
    have hbw := hI.bw
    have hu := hI.up
    have m1 : W.cell? ⟨w.heap.size, 0, none⟩ = some (.int .i64 (most : Int)) := ((hu.at_ w.heap.size (by omega) (by omega)).1 0).trans HC1.out
    have zm := cell_lt m1
    have H3 := Lib.hid q3
    have HZ := Lib.hid hz
    have H5 := Lib.hid q5
    have HTK := Lib.hid hT1
    have HNE := Lib.hid (show ∀ k, k < w3.heap.size → (Value.slice A pre.length c0).ownBlock ≠ some k from fun k hk e => by have := own_bd q3.own _ e; omega)
    clear q3 hz q5 hI hu hT1 hr hl
    have hn5 : pre.length ≤ 65535 := by omega
    have zo2 : w.heap.size + 1 < W.heap.size := zo
    have zm2 : w.heap.size < W.heap.size := zm
    have HAL := Lib.hid (show ∀ o v, o < W.heap.size → (W.alloc v).cell? ⟨o, 0, none⟩ = W.cell? ⟨o, 0, none⟩ from fun o v ho => World.cell?_alloc_lt W v ⟨o, 0, none⟩ ho)
    have HAF := Lib.hid (show ∀ o v, o < W.heap.size → (W.alloc v).frozen? ⟨o, 0, none⟩ = W.frozen? ⟨o, 0, none⟩ from fun o v ho => (((Up.refl W).alloc v).at_ o ho).2 0)
    rcases Nat.lt_or_ge (pre.length + 1) most with hlast | hlast
    · have e1 : (((pre.length : Nat) : Int) + 1 == (most : Int)) = false := by simp; omega
      gi_wp2_with (gi_at_builtin; refine wpListIn_push i0 hi hz0 hz1 hz2 Try.underlying50 rfl (.tmp 10) (.tmp 12) rfl W x rfl W.heap.size rfl w3.heap.size A pre.length c0 pre rfl rfl H3.out hn5 hbw ?_; intro A1 c1 w1 hown1 hg1 hbl1 hp1; obtain ⟨gc, gz⟩ := grown_at hg1 (w.heap.size + 1) (by simp; omega) (HNE.out _ (by omega)); obtain ⟨gm, gmf⟩ := grown_at hg1 w.heap.size (by simp; omega) (HNE.out _ (by omega)); have gc1 := (gc 0).trans ((HAL.out _ _ zo2).trans q1); have gz1 := (gz 0).trans ((HAF.out _ _ zo2).trans q2); have gm1 := (gm 0).trans ((HAL.out _ _ zm2).trans m1); have HO2 := Lib.hid hown1; have HG1 := Lib.hid hg1; have HB1 := Lib.hid hbl1; have HP1 := Lib.hid hp1; have hzw1 := hbl1.size; clear hown1 hg1 hbl1 hp1 gc gz gm gmf)
      have hf := OutB.push (T := fun k => k = w.heap.size + 1) (r := (Value.slice A pre.length c0).ownBlock) HI.out HZ.out H5.out HO2.out HG1.out (fun k hk => by
        cases A with
        | none => simp [Value.ownBlock] at hk
        | some p => simp [Value.ownBlock] at hk; exact ⟨p, rfl, hk⟩) HB1.out (by omega) (Nat.le_refl _) HP1.out gc1 gz1 (.inl rfl)
      exact ⟨hf.1, hf.2, by simp; omega⟩
    · have e1 : (((pre.length : Nat) : Int) + 1 == (most : Int)) = true := by simp; omega
      gi_wp2_with (gi_at_builtin; refine wpListIn_push i0 hi hz0 hz1 hz2 Try.underlying50 rfl (.tmp 10) (.tmp 12) rfl W x rfl W.heap.size rfl w3.heap.size A pre.length c0 pre rfl rfl H3.out hn5 hbw ?_; intro A1 c1 w1 hown1 hg1 hbl1 hp1; obtain ⟨gc, gz⟩ := grown_at hg1 (w.heap.size + 1) (by simp; omega) (HNE.out _ (by omega)); obtain ⟨gm, gmf⟩ := grown_at hg1 w.heap.size (by simp; omega) (HNE.out _ (by omega)); have gc1 := (gc 0).trans ((HAL.out _ _ zo2).trans q1); have gz1 := (gz 0).trans ((HAF.out _ _ zo2).trans q2); have gm1 := (gm 0).trans ((HAL.out _ _ zm2).trans m1); have HO2 := Lib.hid hown1; have HG1 := Lib.hid hg1; have HB1 := Lib.hid hbl1; have HP1 := Lib.hid hp1; have hzw1 := hbl1.size; clear hown1 hg1 hbl1 hp1 gc gz gm gmf)
      have hf := OutB.push (T := fun k => k = w.heap.size + 1) (r := (Value.slice A pre.length c0).ownBlock) HI.out HZ.out H5.out HO2.out HG1.out (fun k hk => by
        cases A with
        | none => simp [Value.ownBlock] at hk
        | some p => simp [Value.ownBlock] at hk; exact ⟨p, rfl, hk⟩) HB1.out (by omega) (Nat.le_refl _) HP1.out gc1 gz1 (.inl rfl)
      exact ⟨hf.1, rfl, hf.2, HTK.out, by simp; omega⟩
  case done =>
    rintro Dd N xs W hD hND hN0 hS ⟨hI, hp⟩ hK
    obtain ⟨A, c, h2, h4⟩ := hI.fin
    have HI := Lib.hid hI
    have HK := Lib.hid hK
    have HND := Lib.hid hND
    have zo := cell_lt h2
    have hX : xs = K := by
      have e : X.attrs = xs := by unfold Spc.attrs; rw [HM.out]; exact hS.symm
      rw [← HKK.out, e, List.take_of_length_le (by omega)]
    rw [hX] at h2
    have HX := Lib.hid hX
    clear hI hK hND h4 hX hS
    go_wp2
    refine ⟨by simp, .inl ⟨_, _, rfl, run_takeDeferred HK.out, ?_⟩⟩
    have hfin := OutB.own N N _ W (W.putObj Dd (.deferred none)) HI.out (keep_put _ HND.out) (fun k hk => .inl hk)
    obtain ⟨A', c', h2', h4'⟩ := hfin.fin
    rw [HX.out] at h2' h4'
    have e : A' = A ∧ c' = c := by
      have := (keep_put (N := fun k => k = Dd) (W := W) (l := Dd) (.deferred none) rfl).at_ (w.heap.size + 1) zo (fun e => HI.out.no (e ▸ HND.out))
      have h := (this.1 0).symm.trans h2'
      rw [h2] at h
      injection h with h
      injection h with h1 h2 h3
      exact ⟨h1.symm, h3.symm⟩
    obtain ⟨rfl, rfl⟩ := e
    exact ⟨_, results_tmp rfl _ _ _, A', c', rfl, h4'.low (by omega), keep_up0 HU.out hfin.up (fun k hk => by omega)⟩
  case stop =>
    rintro Dd N c pre W hD hND hN0 hSp hIx hK
    cases c
    case exit id =>
      obtain ⟨rfl, hI, hT, hlen⟩ := hIx
      refine wpIn_wide.2 ?_
      obtain ⟨A, c, h2, h4⟩ := hI.fin
      have HI := Lib.hid hI
      have HK := Lib.hid hK
      have HND := Lib.hid hND
      have zo := cell_lt h2
      have hX : pre = K := by rw [← HKK.out, ← hlen]; exact (pre_take hT).symm
      rw [hX] at h2
      have HX := Lib.hid hX
      clear hI hK hND h4 hX hT hlen
      go_wp2
      refine ⟨by simp, .inl ⟨_, _, rfl, run_takeDeferred HK.out, ?_⟩⟩
      have hfin := OutB.own N N _ W (W.putObj Dd (.deferred none)) HI.out (keep_put _ HND.out) (fun k hk => .inl hk)
      obtain ⟨A', c', h2', h4'⟩ := hfin.fin
      rw [HX.out] at h2' h4'
      have e : A' = A ∧ c' = c := by
        have := (keep_put (N := fun k => k = Dd) (W := W) (l := Dd) (.deferred none) rfl).at_ (w.heap.size + 1) zo (fun e => HI.out.no (e ▸ HND.out))
        have h := (this.1 0).symm.trans h2'
        rw [h2] at h
        injection h with h
        injection h with h1 h2 h3
        exact ⟨h1.symm, h3.symm⟩
      obtain ⟨rfl, rfl⟩ := e
      exact ⟨_, results_tmp rfl _ _ _, A', c', rfl, h4'.low (by omega), keep_up0 HU.out hfin.up (fun k hk => by omega)⟩
    all_goals exact hIx.elim
end Go.Proofs.Ytjokcfenncogkaa
