/-
  The law's span: the first places, at most so many. No condition.
-/
import Derived.Test.YtejnblncnpfkaaaRngI
namespace Go.Proofs.Ytejnblncnpfkaaa
open Go.RowKit Go.Shelf
set_option linter.unusedVariables false
set_option linter.unusedSimpArgs false
attribute [local go_sem] Oper.semAt_some

/-- what the out box holds once these have come -/
def OutN (w : World) (B g : Nat) (pre : List Int) (W : World) : Prop :=
  ∃ A c, W.cell? ⟨g, 0, none⟩ = some (.slice A pre.length c) ∧ W.frozen? ⟨g, 0, none⟩ = false ∧ W.ownsRow B 3 1 (.slice A pre.length c) pre.length (ns pre) ∧ pre.length ≤ c ∧ c ≤ maxLen ∧ Up w W ∧ B ≤ W.heap.size
theorem OutN.calm {w : World} {B g : Nat} {pre : List Int} {W W' : World} (h : OutN w B g pre W) (hc : Calm B (fun _ => False) W W') (hw : w.heap.size ≤ B) : OutN w B g pre W' := by
  obtain ⟨A, c, h1, h2, h3, h4, h5, h6, h7⟩ := h
  exact ⟨A, c, hc.cell h1 (fun t => t), (hc.frozen h1 (fun t => t)).trans h2, hc.own h3 (fun k ht => ht.elim), h4, h5, hc.up h6 hw (fun k ht => ht.elim), by have := hc.size; omega⟩

set_option maxRecDepth 100000 in
set_option maxHeartbeats 3200000 in
theorem lspan_is {r c f t m a : Int} {n most : Nat} {w : World} (h : SpanOf r c f t m a n) (h1 : 0 < most) (h2 : most ≤ 65536) :
    Calls Try.prog 40 #[.agg #[.int .i64 r, .int .i64 c], .int .i64 f, .int .i64 t, .int .i64 (most : Int)] w fun e w' => ∃ A c', e = .returned (.slice A (min n most) c') ∧ w'.ownsRow w.heap.size 3 1 (.slice A (min n most) c') (min n most) (ns (placesN a m (min n most))) ∧ min n most ≤ c' ∧ c' ≤ maxLen ∧ Up w w' := by
  obtain ⟨i0, hi, hz0, hz1, hz2⟩ := info_parts info_i64
  have HS := Lib.hid h
  have hn := h.hn
  clear h
  refine (callsIn_wide (n := 9)).1 ?_
  refine callsIn_of_wp_marks Try.func40 rfl trivial ?_ rfl
  simp only [Try.ntmps40, List.size_toArray, List.length_cons, List.length_nil, Nat.reduceAdd, Nat.reduceSub, Array.replicate_succ, Array.replicate_zero, List.push_toArray, List.append_toArray, List.nil_append, List.cons_append]
  refine wpIn_wide.2 ?_
  go_wp2_with fail
  refine (span_val _ _ _ _ _).mono ?_
  rintro e w3 ⟨v, rfl, ⟨b1, b2, b3, rfl, hlo, hhi, y0, y1, y2, y3⟩, hu3⟩
  simp at hlo
  obtain ⟨k1, f1⟩ := hu3.at_ (w.heap.size + 1) (by (try simp) <;> omega)
  obtain ⟨k2, f2⟩ := hu3.at_ (w.heap.size + 1 + 1) (by (try simp) <;> omega)
  have uw : Up w w3 := by (repeat (first | with_reducible exact Up.refl _ | with_reducible refine Up.alloc ?_ _ | with_reducible refine Up.drew ?_ | with_reducible refine Up.drewN ?_ _ | with_reducible refine Up.setCell ?_ (by (try simp) <;> omega) _ | with_reducible assumption | with_reducible refine Up.trans ?_ (by assumption)))
  have c1 : w3.cell? ⟨w.heap.size + 1, 0, none⟩ = some (.int .i64 (most : Int)) := (k1 0).trans (by simp [go_sem])
  have c2 : w3.cell? ⟨w.heap.size + 1 + 1, 0, none⟩ = some (.slice none 0 0) := (k2 0).trans (by simp [go_sem])
  have g2 : w3.frozen? ⟨w.heap.size + 1 + 1, 0, none⟩ = false := (f2 0).trans (by simp [go_sem])
  have hzw := hu3.size
  simp at hzw
  have HI := Lib.hid (HS.out.it hhi y0 y1 y2 y3)
  have HU := Lib.hid uw
  clear y0 y1 y2 y3 k1 k2 f1 f2 hu3 uw
  go_wp2_with fail
  have hBw : w.heap.size ≤ w3.heap.size := HU.out.size
  refine wpIn_wide.1 (range_it (n := 9) (gf := 47) (lb := #[.pointer (some ⟨b1, 0, none⟩), .pointer (some ⟨b2, 0, none⟩), .pointer (some ⟨b3, 0, none⟩)]) rfl enters_span
    (HI.out 8 w3 (fun k => k = w.heap.size + 1 + 1) (Up.refl _) (fun k hk e => by subst e; rcases hk with h | h | h <;> omega))
    (fun k hk => hk.elim) (fun _ => rfl)
    (fun pre W => OutN w w3.heap.size (w.heap.size + 1 + 1) pre W ∧ W.cell? ⟨w.heap.size + 1, 0, none⟩ = some (.int .i64 (most : Int)) ∧ pre.length < most)
    (fun c xs W => match c with
      | .exit id => id = 0 ∧ OutN w w3.heap.size (w.heap.size + 1 + 1) xs W ∧ xs.length = most
      | _ => False)
    ?still ?stillx ?start
    (fun pre x a' W => pre ++ [x] <+: placesN a m n ∧ a' = { tmps := #[.agg #[.int .i64 r, .int .i64 c], .int .i64 f, .int .i64 t, .int .i64 (most : Int), .pointer (some ⟨w.heap.size, 0, none⟩), undef, undef, .pointer (some ⟨w.heap.size + 1, 0, none⟩), .slice none 0 0, .pointer (some ⟨w.heap.size + 1 + 1, 0, none⟩), .int .i64 x, .agg #[.int .i64 r, .int .i64 c], .int .i64 f, .int .i64 t, .func (.func 47) #[] #[.pointer (some ⟨b1, 0, none⟩), .pointer (some ⟨b2, 0, none⟩), .pointer (some ⟨b3, 0, none⟩)], .int .i64 x, undef, undef, undef, undef, undef, undef, undef, undef, undef], defers := [] })
    ?stilla ?assign ?body ?done ?stop)
  case still =>
    rintro pre W W' ⟨h1, h2, h3⟩ hc
    exact ⟨h1.calm hc hBw, hc.cell h2 (fun t => t), h3⟩
  case stillx =>
    intro c xs W W' h hc
    cases c
    case exit id => exact ⟨h.1, h.2.1.calm hc hBw, h.2.2⟩
    all_goals exact h.elim
  case start => exact ⟨⟨none, 0, c2, g2, ⟨rfl, .inl ⟨rfl, rfl⟩⟩, by simp, by simp [maxLen], HU.out, Nat.le_refl _⟩, c1, h1⟩
  case stilla => exact fun _ _ _ _ _ _ h _ => h
  case assign =>
    intro l pre x W K hI hG hK
    gi_wp2
    exact hK _ _ (KpR.refl _ _ _ _) hI ⟨hG, rfl⟩
  case body =>
    rintro lb pre x a' W hl hr ⟨⟨A, cp, q1, q2, q3, q4, q5, q6, q7⟩, hm, hp⟩ ⟨hG, rfl⟩
    have hlen : pre.length + 1 ≤ n := by have := hG.length_le; rw [placesN_len] at this; simpa using this
    have zg := cell_lt q1
    have zm := cell_lt hm
    have H3 := Lib.hid q3
    have H6 := Lib.hid q6
    clear q3 q6 hG hr hl
    obtain ⟨j, hj⟩ : ∃ j, pre.length = j := ⟨_, rfl⟩
    have HJ := Lib.hid hj
    rw [hj] at q1 H3 hlen q4 hp
    clear hj
    have hq1 : j + 1 ≤ maxLen := by simp [maxLen]; omega
    have hq2 : (j + 1) * 8 ≤ 140737488355328 := by omega
    have HNE := Lib.hid (show ∀ k, k < w3.heap.size → (Value.slice A j cp).ownBlock ≠ some k from fun k hk e => by have := own_bd H3.out _ e; omega)
    have HFIN := Lib.hid (fun (A2 : Option Addr) (c2 : Nat) (w4 : World) (ho : w4.ownsRow w3.heap.size 3 1 (.slice A2 (j + 1) c2) (j + 1) (ns pre ++ [.int .i64 x])) (hg : (W.alloc (.cells #[.int .i64 x] 3)).grownBy w4 (Value.slice A j cp).ownBlock) (hle : j + 1 ≤ c2) (hmx : c2 ≤ maxLen) (hbl : Below w3.heap.size (W.alloc (.cells #[.int .i64 x] 3)) w4)
        (gc : w4.cell? ⟨w.heap.size + 1 + 1, 0, none⟩ = some (.slice A j cp)) (gz : w4.frozen? ⟨w.heap.size + 1 + 1, 0, none⟩ = false) =>
      show OutN w w3.heap.size (w.heap.size + 1 + 1) (pre ++ [x]) (w4.setCell ⟨w.heap.size + 1 + 1, 0, none⟩ (.slice A2 (j + 1) c2)) ∧ KpR w3.heap.size w3.heap.size (fun k => k = w.heap.size + 1 + 1) W (w4.setCell ⟨w.heap.size + 1 + 1, 0, none⟩ (.slice A2 (j + 1) c2)) from by
        have hll : (pre ++ [x]).length = j + 1 := by have := HJ.out; simp [this]
        have hsz := hbl.size
        simp at hsz
        refine ⟨?_, ?_⟩
        · unfold OutN
          rw [hll, ns_snoc]
          refine ⟨A2, c2, World.cell?_setCell_same (h := gc) .., by rw [World.frozen?_setCell]; exact gz, own_far ho (by show w.heap.size + 1 + 1 < _; omega) _, hle, hmx, ?_, by simp [World.setCell]; omega⟩
          exact Up.setCell (Up.past (H6.out.alloc _) (Below.mono hbl hBw)) (by show w.heap.size ≤ w.heap.size + 1 + 1; omega) _
        · exact ((KpR.of_up ((Up.refl W).alloc (.cells #[.int .i64 x] 3)) q7).trans (KpR.grown hg (by simp; omega) (own_cells (H3.out.alloc (.cells #[.int .i64 x] 3))))).trans (KpR.setCell (.inl rfl) gc))
    rcases Nat.lt_or_ge (j + 1) most with hlast | hlast
    · have e1 : (((j : Nat) : Int) + 1 == (most : Int)) = false := by simp; omega
      gi_wp2_with (gi_at_builtin; refine wpListIn_app rfl (.tmp 16) (.tmp 18) 58 rfl w3.heap.size 3 i0 _ 1 8 Try.underlying58 hi hz0 hz1 hz2 rfl (by decide) A j cp (ns pre) rfl (own_up H3.out ((Up.refl W).alloc _)) (W.heap.size + 1) (some ⟨W.heap.size, 0, none⟩) 1 1 [.int .i64 x] rfl (reads_at W W.heap.size 1 1 _ _ rfl rfl) (by simp [Value.oneCell']) hq1 hq2 (by simp; omega) ?_; intro A2 c2 w4 hown4 hg4 hle4 hmx4 hbl4; have HO4 := Lib.hid hown4; have HG4 := Lib.hid hg4; have HB4 := Lib.hid hbl4; obtain ⟨g4c, g4f⟩ := grown_at hg4 (w.heap.size + 1 + 1) (by simp; omega) (HNE.out _ (by omega)); obtain ⟨gmc, gmf⟩ := grown_at hg4 (w.heap.size + 1) (by simp; omega) (HNE.out _ (by omega)); have k4 := (g4c 0).trans ((World.cell?_alloc_lt W _ ⟨w.heap.size + 1 + 1, 0, none⟩ zg).trans q1); have kf := (g4f 0).trans ((((Up.refl W).alloc _).at_ _ zg).2 0 |>.trans q2); have km := (gmc 0).trans ((World.cell?_alloc_lt W _ ⟨w.heap.size + 1, 0, none⟩ zm).trans hm); clear hown4 hg4 hbl4 g4c g4f gmc gmf)
      have hf := HFIN.out _ _ _ HO4.out HG4.out hle4 hmx4 HB4.out k4 kf
      exact ⟨hf.2, hf.1, (cell_off (by omega) _ _ _).trans km, by have := HJ.out; simp [this]; omega⟩
    · have e1 : (((j : Nat) : Int) + 1 == (most : Int)) = true := by simp; omega
      gi_wp2_with (gi_at_builtin; refine wpListIn_app rfl (.tmp 16) (.tmp 18) 58 rfl w3.heap.size 3 i0 _ 1 8 Try.underlying58 hi hz0 hz1 hz2 rfl (by decide) A j cp (ns pre) rfl (own_up H3.out ((Up.refl W).alloc _)) (W.heap.size + 1) (some ⟨W.heap.size, 0, none⟩) 1 1 [.int .i64 x] rfl (reads_at W W.heap.size 1 1 _ _ rfl rfl) (by simp [Value.oneCell']) hq1 hq2 (by simp; omega) ?_; intro A2 c2 w4 hown4 hg4 hle4 hmx4 hbl4; have HO4 := Lib.hid hown4; have HG4 := Lib.hid hg4; have HB4 := Lib.hid hbl4; obtain ⟨g4c, g4f⟩ := grown_at hg4 (w.heap.size + 1 + 1) (by simp; omega) (HNE.out _ (by omega)); obtain ⟨gmc, gmf⟩ := grown_at hg4 (w.heap.size + 1) (by simp; omega) (HNE.out _ (by omega)); have k4 := (g4c 0).trans ((World.cell?_alloc_lt W _ ⟨w.heap.size + 1 + 1, 0, none⟩ zg).trans q1); have kf := (g4f 0).trans ((((Up.refl W).alloc _).at_ _ zg).2 0 |>.trans q2); have km := (gmc 0).trans ((World.cell?_alloc_lt W _ ⟨w.heap.size + 1, 0, none⟩ zm).trans hm); clear hown4 hg4 hbl4 g4c g4f gmc gmf)
      have hf := HFIN.out _ _ _ HO4.out HG4.out hle4 hmx4 HB4.out k4 kf
      exact ⟨hf.2, rfl, hf.1, by have := HJ.out; simp [this]; omega⟩
  case done =>
    rintro Dd xs W hD2 rfl ⟨⟨A, cp, q1, q2, q3, q4, q5, q6, q7⟩, hm, hp⟩ hK
    have H3 := Lib.hid q3
    have H6 := Lib.hid q6
    have HK := Lib.hid hK
    rw [placesN_len] at q1 H3 q4 hp
    have zg := cell_lt q1
    clear q3 q6 hK
    go_wp2
    have hc : Calm w3.heap.size (fun _ => False) W (W.putObj Dd (.deferred none)) := Calm.putObj _ hD2 HK.out rfl
    have hmin : min n most = n := by omega
    (try rw [hmin])
    refine ⟨by simp, .inl ⟨_, _, rfl, run_takeDeferred HK.out, ?_⟩⟩
    exact ⟨_, results_tmp rfl _ _ _, A, cp, rfl, own_base (hc.own H3.out (fun k ht => ht.elim)) hBw, q4, q5, hc.up H6.out hBw (fun k ht => ht.elim)⟩
  case stop =>
    rintro Dd c pre W hD2 hS hIx hK
    cases c
    case exit id =>
      obtain ⟨rfl, ⟨A, cp, q1, q2, q3, q4, q5, q6, q7⟩, hlen⟩ := hIx
      refine wpIn_wide.2 ?_
      have H3 := Lib.hid q3
      have H6 := Lib.hid q6
      have HK := Lib.hid hK
      have hle : most ≤ n := by have := hS.length_le; rw [placesN_len] at this; omega
      have hpre : pre = placesN a m most := by
        rw [List.prefix_iff_eq_take] at hS
        rw [hS, hlen, placesN_take _ _ hle]
      rw [hlen] at q1 H3 q4
      have zg := cell_lt q1
      clear q3 q6 hK hS hlen
      go_wp2
      have hc : Calm w3.heap.size (fun _ => False) W (W.putObj Dd (.deferred none)) := Calm.putObj _ hD2 HK.out rfl
      have hmin : min n most = most := by omega
      (try rw [hmin])
      subst hpre
      refine ⟨by simp, .inl ⟨_, _, rfl, run_takeDeferred HK.out, ?_⟩⟩
      exact ⟨_, results_tmp rfl _ _ _, A, cp, rfl, own_base (hc.own H3.out (fun k ht => ht.elim)) hBw, q4, q5, hc.up H6.out hBw (fun k ht => ht.elim)⟩
    all_goals exact hIx.elim
end Go.Proofs.Ytejnblncnpfkaaa
