/-
  The walk of AddrSpans: whatever the size, the numbers and the stop, it returns true. No condition.
-/
import Derived.Test.YtejnblncnpfkaaaLSpan
import Derived.Test.YtejnblncnpfkaaaLaw04a
import Derived.Test.YtejnblncnpfkaaaMix
namespace Go.Proofs.Ytejnblncnpfkaaa
open Go.RowKit Go.Shelf
set_option linter.unusedVariables false
set_option linter.unusedSimpArgs false

/-- a slice of these numbers -/
def RMs (L : List Int) (v : Value) (W : World) : Prop := ∃ A n c, v = .slice A n c ∧ n = L.length ∧ True ∧ True ∧ Reads W W.heap.size 1 A n (ns L)
theorem rms_up (L : List Int) (v : Value) (W W' : World) (h : RMs L v W) (hu : Up W W') : RMs L v W' := by
  obtain ⟨A, n, c, rfl, hn, h1, h2, hr⟩ := h
  exact ⟨A, n, c, rfl, hn, h1, h2, hr.up hu⟩
theorem rms_own {L : List Int} {w' : World} {base n : Nat} {E : TypeId} {A : Option Addr} {c : Nat} (h : w'.ownsRow base E 1 (.slice A n c) n (ns L)) (hn : n = L.length) : RMs L (.slice A n c) w' := ⟨A, _, c, rfl, hn, trivial, trivial, Reads.of_own h⟩
theorem spans_of (r c f t : Int) : ∃ (m a : Int) (n : Nat) (L : List Int), SpanOf r c f t m a n ∧ placesN a m n = L ∧ L.length = n ∧ n ≤ 65536 ∧
    ∀ w, Calls Try.prog 35 #[.agg #[.int .i64 r, .int .i64 c], .int .i64 f, .int .i64 t] w fun e w' => ∃ A c', e = .returned (.slice A L.length c') ∧ RMs L (.slice A L.length c') w' ∧ L.length ≤ c' ∧ c' ≤ maxLen ∧ Up w w' := by
  cases h : validB r c
  · refine ⟨1, 0, 0, [], ⟨by omega, by omega, by omega, fun W => length_bad r c f t W h, fun h => by omega, fun h => by omega⟩, rfl, rfl, by omega, fun w => ?_⟩
    refine (rspan_bad r c f t w h).mono ?_
    rintro e w' ⟨rfl, hu⟩
    exact ⟨none, 0, rfl, ⟨none, 0, 0, rfl, rfl, trivial, trivial, Reads.none_⟩, by simp, by simp, hu⟩
  · obtain ⟨h0, h1, h2, h3, h4, h5⟩ := valid_facts h
    have hb := len_bd (f := f) (t := t) (len := lenN r c f t) h4 rfl
    have ha := mod_facts f (r * c) h4
    obtain ⟨n, hn⟩ : ∃ n : Nat, (n : Int) = lenN r c f t := ⟨(lenN r c f t).toNat, by omega⟩
    refine ⟨r * c, f % (r * c), n, placesN (f % (r * c)) (r * c) n, ⟨by omega, by omega, by omega, fun W => ?_, fun _ W => wrap_good r c f W h, fun _ j W => wrap_good r c _ W h⟩, rfl, placesN_len _ _ _, by omega, fun w => ?_⟩
    · rw [hn]; exact length_good r c f t W h
    · refine (rspan_good (w := w) h rfl hn).mono ?_
      rintro e w' ⟨A, c', rfl, ho, hle, hmx, hu⟩
      rw [placesN_len]
      exact ⟨A, c', rfl, rms_own ho (placesN_len _ _ _).symm, hle, hmx, hu⟩
theorem collect_span {r c f t m a : Int} {n lo : Nat} {v : Value} {W : World} {L : List Int} (h : SpanOf r c f t m a n) (hL : placesN a m n = L) (hv : SpanAt r c f t lo v W) :
    Calls Try.prog 37 #[v] W fun e w' => ∃ A c', e = .returned (.slice A L.length c') ∧ RMs L (.slice A L.length c') w' ∧ Up W w' := by
  obtain ⟨b1, b2, b3, rfl, hlo, hz, h1, h2, h3, h4⟩ := hv
  subst hL
  refine (collect_i64 (placesN a m n) enters_span (fun k hk => hk.elim) (fun k hk => by rcases hk with rfl | rfl | rfl <;> omega) (by rw [placesN_len]; exact h.hn) (h.it hz h1 h2 h3 h4)).mono ?_
  rintro e w' ⟨A, c', rfl, ho, hle, hmx, hk⟩
  exact ⟨A, c', rfl, rms_own ho rfl, hk.upto (fun i hi => hi.elim)⟩
theorem lspan_ms {r c f t m a x : Int} {n most : Nat} {w : World} {L K : List Int} (h : SpanOf r c f t m a n) (hL : placesN a m n = L) (hn : L.length = n) (hK : L.take most = K) (h1 : 0 < most) (h2 : most ≤ 65536) (hx : x = (most : Int)) :
    Calls Try.prog 40 #[.agg #[.int .i64 r, .int .i64 c], .int .i64 f, .int .i64 t, .int .i64 x] w fun e w' => ∃ A c', e = .returned (.slice A K.length c') ∧ RMs K (.slice A K.length c') w' ∧ Up w w' := by
  subst hx
  refine (lspan_is (w := w) h h1 h2).mono ?_
  rintro e w' ⟨A, c', rfl, ho, hle, hmx, hu⟩
  have hk : placesN a m (min n most) = K := by
    rw [← hK, ← hL]
    rcases Nat.le_total most n with h | h
    · rw [placesN_take _ _ h, Nat.min_eq_right h]
    · rw [List.take_of_length_le (by rw [placesN_len]; exact h), Nat.min_eq_left h]
  have hkl : K.length = min n most := by rw [← hk, placesN_len]
  rw [hk] at ho
  rw [← hkl] at ho ⊢
  exact ⟨A, c', rfl, rms_own ho rfl, hu⟩
theorem span_val0 (r c f t : Int) (w : World) :
    Calls Try.prog 38 #[.agg #[.int .i64 r, .int .i64 c], .int .i64 f, .int .i64 t] w fun e w' => ∃ v, e = .returned v ∧ SpanAt r c f t 0 v w' ∧ Up w w' := by
  refine (span_val r c f t w).mono ?_
  rintro e w' ⟨v, rfl, ⟨b1, b2, b3, rfl, hlo, h⟩, hu⟩
  exact ⟨_, rfl, ⟨b1, b2, b3, rfl, by omega, h⟩, hu⟩
theorem eq_ms {A A' : Option Addr} {c c' n' : Nat} {L : List Int} {w : World} (hr : Reads w w.heap.size 1 A L.length (ns L)) (hr' : Reads w w.heap.size 1 A' n' (ns L)) (hn : L.length ≤ 65536) (hq : L.length = n') :
    Calls Try.prog 36 #[.slice A L.length c, .slice A' n' c'] w fun e w' => e = .returned (.bool true) ∧ Up w w' := by
  refine (equal_i A A' L.length n' c c' L L w hr hr' hn (by omega)).mono ?_
  rintro e w' ⟨rfl, hu⟩
  exact ⟨by simp, hu⟩
theorem len_ms {r c f t m a : Int} {n : Nat} {w : World} {L : List Int} (h : SpanOf r c f t m a n) (hn : L.length = n) :
    Calls Try.prog 39 #[.agg #[.int .i64 r, .int .i64 c], .int .i64 f, .int .i64 t] w fun e w' => e = .returned (.int .i64 (L.length : Int)) ∧ Up w w' := by
  rw [hn]; exact h.len w

set_option maxRecDepth 100000 in
set_option maxHeartbeats 6400000 in
theorem law_spans (r c f t st : Int) (w : World) (_ : -9223372036854775808 ≤ r) (_ : r ≤ 9223372036854775807) (_ : -9223372036854775808 ≤ c) (_ : c ≤ 9223372036854775807) (_ : -9223372036854775808 ≤ f) (_ : f ≤ 9223372036854775807) (_ : -9223372036854775808 ≤ t) (_ : t ≤ 9223372036854775807) (s0 : 0 ≤ st) (s1 : st ≤ 65535) :
    Calls Try.prog 8 #[.agg #[.int .i64 r, .int .i64 c], .int .i64 f, .int .i64 t, .int .u16 st] w fun e w' => e = .returned (.bool true) ∧ Up w w' := by
  obtain ⟨m, a, n, L, hsp, hL, hn, hn6, href⟩ := spans_of r c f t
  obtain ⟨s, rfl⟩ : ∃ s : Nat, st = (s : Int) := ⟨st.toNat, by omega⟩
  have HSP := Lib.hid hsp
  have HL := Lib.hid hL
  have HN := Lib.hid hn
  have HREF := Lib.hid href
  have hll : L.length ≤ 65536 := by omega
  clear hsp hL hn href
  obtain ⟨K, hK⟩ : ∃ K, L.take (s + 1) = K := ⟨_, rfl⟩
  have HK := Lib.hid hK
  have HX := Lib.hid (show (1 : Int) + (s : Int) = ((s + 1 : Nat) : Int) by omega)
  have hs6 : 0 < s + 1 := by omega
  have hs7 : s + 1 ≤ 65536 := by omega
  go_enter Try.func8, Try.ntmps8
  go_wp2_with fail
  refine (awake04 _).mono ?_
  rintro e w1 ⟨rfl, hb_w1⟩
  have hu_w1 : Up w w1 := by (repeat (first | with_reducible exact Up.refl _ | with_reducible refine Up.alloc ?_ _ | with_reducible refine Up.drew ?_ | with_reducible refine Up.drewN ?_ _ | with_reducible refine Up.setCell ?_ (by (try simp) <;> omega) _ | with_reducible assumption | with_reducible refine Up.trans ?_ (by assumption)))
  have hz_w1 := Up.size hb_w1
  try simp at hz_w1
  obtain ⟨bd_w1_0, be_w1_0⟩ := hb_w1.at_ (w.heap.size) (by (try simp) <;> omega)
  have zb_w1_0 : w.heap.size < w1.heap.size := by omega
  go_wp2_with fail
  refine (HREF.out _).mono ?_
  rintro e w2 ⟨Aw, cw, rfl, hRW0, hlw, hmw, hb_w2⟩
  have hu_w2 : Up w1 w2 := by (repeat (first | with_reducible exact Up.refl _ | with_reducible refine Up.alloc ?_ _ | with_reducible refine Up.drew ?_ | with_reducible refine Up.drewN ?_ _ | with_reducible refine Up.setCell ?_ (by (try simp) <;> omega) _ | with_reducible assumption | with_reducible refine Up.trans ?_ (by assumption)))
  have hz_w2 := Up.size hb_w2
  try simp at hz_w2
  obtain ⟨bc_w2_0, bf_w2_0⟩ := hu_w2.at_ (w.heap.size) (by omega)
  obtain ⟨bd_w2_0, be_w2_0⟩ := hb_w2.at_ (w1.heap.size) (by (try simp) <;> omega)
  have zb_w2_0 : w.heap.size < w2.heap.size := by omega
  have zb_w2_1 : w1.heap.size < w2.heap.size := by omega
  go_wp2_with fail
  obtain ⟨A', n', c', he, hn', _, _, hRr⟩ := hRW0
  injection he with he1 he2 he3
  subst he1; subst he2; subst he3
  have HRW := Lib.hid hRr
  clear hRr hn'
  have hkl : K.length ≤ 65536 := by rw [← hK, List.length_take]; omega
  have hcw : (cw : Int) ≤ 9223372036854775807 := by simp [maxLen] at hmw; omega
  rcases Nat.lt_or_ge (s + 1) L.length with hlt | hge
  · have HQ := Lib.hid (show K.length = 1 + s by rw [← hK, List.length_take]; omega)
    have HRD := Lib.hid (show Reads w2 w2.heap.size 1 Aw (1 + s) (ns K) by
      have := HRW.out.take (k := s + 1) (by omega)
      rw [Nat.mul_one, ns, ← List.map_take, hK] at this
      rw [Nat.add_comm 1 s]
      exact this)
    have q1 : (s : Int) + 1 < (L.length : Int) := by omega
    have q2 : (1 : Int) + (s : Int) < (L.length : Int) := by omega
    have q3 : (L.length : Int) ≤ (cw : Int) := by omega
    clear hK
    · --ARM
      refine wp_region_mix (NS := [(25, SpanAt r c f t 0), (26, RMs L), (43, RMs K)]) [25, 26, 43] rfl (by kernel_rfl) (by kernel_rfl) (by simp) (by intro p hp; simp only [List.mem_cons, List.mem_nil_iff, or_false] at hp; rcases hp with rfl | rfl | rfl; all_goals (first | exact rsl_up _ | exact rptr_up _ | exact rms_up _ | exact spanAt_up _ _ _ _ _)) ?_
      repeat (first
        | (refine mix_skip rfl rfl ?_; simp only [Act.put, List.setIfInBounds_toArray, List.set_cons_succ, List.set_cons_zero])
        | (refine mix_q rfl rfl rfl (by kernel_rfl) rfl rfl rfl ?_
           apply Exists.intro
           refine ⟨fun Wm => ?_, ?_⟩
           · simp only [fin]
             repeat (rintro (vm : Value) hvm; first | (obtain ⟨gm, om, rfl, hgm, hcm⟩ := hvm) | (obtain ⟨gm, om, cm, rfl, h2m, hxm, hgm, hcm, hdm⟩ := rsl_two hvm) | (obtain ⟨Am, nm, cm, rfl, hnm, hlm, hmm, hrm⟩ := hvm; (try simp only [List.length_cons, List.length_nil, Nat.zero_add, Nat.reduceAdd] at hnm); subst hnm) | (have hvs := hvm; obtain ⟨bm1, bm2, bm3, rfl, hbl, hbz, hbc⟩ := hvm))
             intro K hK
             go_wp2_with ((first | (go_at_call 38; (with_reducible refine (span_val0 r c f t _).mono ?_); rintro e w' ⟨vx, rfl, hRx, hux⟩) | (go_at_call 37; (with_reducible refine (collect_span HSP.out HL.out hvs).mono ?_); rintro e w' ⟨Ax, cx, rfl, hRx, hux⟩) | (go_at_call 36; (with_reducible refine (eq_ms (by assumption) (HRW.out.up (up_upOf _ _)) hll rfl).mono ?_); rintro e w' ⟨rfl, hux⟩) | (go_at_call 36; (with_reducible refine (eq_ms (by assumption) (HRD.out.up (up_upOf _ _)) hkl HQ.out).mono ?_); rintro e w' ⟨rfl, hux⟩) | (go_at_call 39; (with_reducible refine (len_ms HSP.out HN.out).mono ?_); rintro e w' ⟨rfl, hux⟩) | (go_at_call 40; (with_reducible refine (lspan_ms HSP.out HL.out HN.out HK.out hs6 hs7 HX.out).mono ?_); rintro e w' ⟨Ax, cx, rfl, hRx, hux⟩)))
             refine hK _ _ ?_ ?_ ?_
             · (repeat (first | with_reducible exact Up.refl _ | with_reducible refine Up.alloc ?_ _ | with_reducible refine Up.drew ?_ | with_reducible refine Up.drewN ?_ _ | with_reducible refine Up.setCell ?_ (by (try simp) <;> omega) _ | with_reducible assumption | with_reducible refine Up.trans ?_ (by assumption)))
             · rfl
             · exact tmps_at rfl
           simp only [Act.put, List.setIfInBounds_toArray, List.set_cons_succ, List.set_cons_zero])
        | (refine mix_n rfl rfl rfl (by kernel_rfl) rfl rfl rfl ?_ ?_
           · intro Wm
             simp only [fin]
             repeat (rintro (vm : Value) hvm; first | (obtain ⟨gm, om, rfl, hgm, hcm⟩ := hvm) | (obtain ⟨gm, om, cm, rfl, h2m, hxm, hgm, hcm, hdm⟩ := rsl_two hvm) | (obtain ⟨Am, nm, cm, rfl, hnm, hlm, hmm, hrm⟩ := hvm; (try simp only [List.length_cons, List.length_nil, Nat.zero_add, Nat.reduceAdd] at hnm); subst hnm) | (have hvs := hvm; obtain ⟨bm1, bm2, bm3, rfl, hbl, hbz, hbc⟩ := hvm))
             intro K hK
             go_wp2_with ((first | (go_at_call 38; (with_reducible refine (span_val0 r c f t _).mono ?_); rintro e w' ⟨vx, rfl, hRx, hux⟩) | (go_at_call 37; (with_reducible refine (collect_span HSP.out HL.out hvs).mono ?_); rintro e w' ⟨Ax, cx, rfl, hRx, hux⟩) | (go_at_call 36; (with_reducible refine (eq_ms (by assumption) (HRW.out.up (up_upOf _ _)) hll rfl).mono ?_); rintro e w' ⟨rfl, hux⟩) | (go_at_call 36; (with_reducible refine (eq_ms (by assumption) (HRD.out.up (up_upOf _ _)) hkl HQ.out).mono ?_); rintro e w' ⟨rfl, hux⟩) | (go_at_call 39; (with_reducible refine (len_ms HSP.out HN.out).mono ?_); rintro e w' ⟨rfl, hux⟩) | (go_at_call 40; (with_reducible refine (lspan_ms HSP.out HL.out HN.out HK.out hs6 hs7 HX.out).mono ?_); rintro e w' ⟨Ax, cx, rfl, hRx, hux⟩)))
             apply hK
             · (repeat (first | with_reducible exact Up.refl _ | with_reducible refine Up.alloc ?_ _ | with_reducible refine Up.drew ?_ | with_reducible refine Up.drewN ?_ _ | with_reducible refine Up.setCell ?_ (by (try simp) <;> omega) _ | with_reducible assumption | with_reducible refine Up.trans ?_ (by assumption)))
             · rfl
             · exact tmps_at rfl
             · first | exact rsl_lit _ _ _ _ _ _ rfl rfl (by simp [maxLen]) rfl | exact ⟨_, _, rfl, hgm, hcm⟩ | exact ⟨_, _, rfl, hgm, hdm⟩ | assumption
           simp only [Act.put, List.setIfInBounds_toArray, List.set_cons_succ, List.set_cons_zero]))
      refine mix_nil ?_
      intro wm hb_wm
      simp only [fin]
      intro vm_wm_0 hvm_wm_0
      intro vm_wm_1 hvm_wm_1
      intro vm_wm_2 hvm_wm_2
      simp only [Act.put, List.setIfInBounds_toArray, List.set_cons_succ, List.set_cons_zero]
      have hu_wm : Up w2 wm := by (repeat (first | with_reducible exact Up.refl _ | with_reducible refine Up.alloc ?_ _ | with_reducible refine Up.drew ?_ | with_reducible refine Up.drewN ?_ _ | with_reducible refine Up.setCell ?_ (by (try simp) <;> omega) _ | with_reducible assumption | with_reducible refine Up.trans ?_ (by assumption)))
      have hz_wm := Up.size hb_wm
      try simp at hz_wm
      obtain ⟨bc_wm_0, bf_wm_0⟩ := hu_wm.at_ (w.heap.size) (by omega)
      obtain ⟨bc_wm_1, bf_wm_1⟩ := hu_wm.at_ (w1.heap.size) (by omega)
      have zb_wm_0 : w.heap.size < wm.heap.size := by omega
      have zb_wm_1 : w1.heap.size < wm.heap.size := by omega
      go_wp2_with fail
      go_ret
      exact ⟨rfl, by (repeat (first | with_reducible exact Up.refl _ | with_reducible refine Up.alloc ?_ _ | with_reducible refine Up.drew ?_ | with_reducible refine Up.drewN ?_ _ | with_reducible refine Up.setCell ?_ (by (try simp) <;> omega) _ | with_reducible assumption | with_reducible refine Up.trans ?_ (by assumption)))⟩
  · have HQ := Lib.hid (show K.length = L.length by rw [← hK, List.length_take]; omega)
    have HRD := Lib.hid (show Reads w2 w2.heap.size 1 Aw L.length (ns K) by rw [← hK, List.take_of_length_le hge]; exact HRW.out)
    have q1 : (L.length : Int) ≤ (s : Int) + 1 := by omega
    have q2 : (L.length : Int) ≤ (1 : Int) + (s : Int) := by omega
    have q3 : (L.length : Int) ≤ (cw : Int) := by omega
    clear hK
    · --ARM
      refine wp_region_mix (NS := [(25, SpanAt r c f t 0), (26, RMs L), (43, RMs K)]) [25, 26, 43] rfl (by kernel_rfl) (by kernel_rfl) (by simp) (by intro p hp; simp only [List.mem_cons, List.mem_nil_iff, or_false] at hp; rcases hp with rfl | rfl | rfl; all_goals (first | exact rsl_up _ | exact rptr_up _ | exact rms_up _ | exact spanAt_up _ _ _ _ _)) ?_
      repeat (first
        | (refine mix_skip rfl rfl ?_; simp only [Act.put, List.setIfInBounds_toArray, List.set_cons_succ, List.set_cons_zero])
        | (refine mix_q rfl rfl rfl (by kernel_rfl) rfl rfl rfl ?_
           apply Exists.intro
           refine ⟨fun Wm => ?_, ?_⟩
           · simp only [fin]
             repeat (rintro (vm : Value) hvm; first | (obtain ⟨gm, om, rfl, hgm, hcm⟩ := hvm) | (obtain ⟨gm, om, cm, rfl, h2m, hxm, hgm, hcm, hdm⟩ := rsl_two hvm) | (obtain ⟨Am, nm, cm, rfl, hnm, hlm, hmm, hrm⟩ := hvm; (try simp only [List.length_cons, List.length_nil, Nat.zero_add, Nat.reduceAdd] at hnm); subst hnm) | (have hvs := hvm; obtain ⟨bm1, bm2, bm3, rfl, hbl, hbz, hbc⟩ := hvm))
             intro K hK
             go_wp2_with ((first | (go_at_call 38; (with_reducible refine (span_val0 r c f t _).mono ?_); rintro e w' ⟨vx, rfl, hRx, hux⟩) | (go_at_call 37; (with_reducible refine (collect_span HSP.out HL.out hvs).mono ?_); rintro e w' ⟨Ax, cx, rfl, hRx, hux⟩) | (go_at_call 36; (with_reducible refine (eq_ms (by assumption) (HRW.out.up (up_upOf _ _)) hll rfl).mono ?_); rintro e w' ⟨rfl, hux⟩) | (go_at_call 36; (with_reducible refine (eq_ms (by assumption) (HRD.out.up (up_upOf _ _)) hkl HQ.out).mono ?_); rintro e w' ⟨rfl, hux⟩) | (go_at_call 39; (with_reducible refine (len_ms HSP.out HN.out).mono ?_); rintro e w' ⟨rfl, hux⟩) | (go_at_call 40; (with_reducible refine (lspan_ms HSP.out HL.out HN.out HK.out hs6 hs7 HX.out).mono ?_); rintro e w' ⟨Ax, cx, rfl, hRx, hux⟩)))
             refine hK _ _ ?_ ?_ ?_
             · (repeat (first | with_reducible exact Up.refl _ | with_reducible refine Up.alloc ?_ _ | with_reducible refine Up.drew ?_ | with_reducible refine Up.drewN ?_ _ | with_reducible refine Up.setCell ?_ (by (try simp) <;> omega) _ | with_reducible assumption | with_reducible refine Up.trans ?_ (by assumption)))
             · rfl
             · exact tmps_at rfl
           simp only [Act.put, List.setIfInBounds_toArray, List.set_cons_succ, List.set_cons_zero])
        | (refine mix_n rfl rfl rfl (by kernel_rfl) rfl rfl rfl ?_ ?_
           · intro Wm
             simp only [fin]
             repeat (rintro (vm : Value) hvm; first | (obtain ⟨gm, om, rfl, hgm, hcm⟩ := hvm) | (obtain ⟨gm, om, cm, rfl, h2m, hxm, hgm, hcm, hdm⟩ := rsl_two hvm) | (obtain ⟨Am, nm, cm, rfl, hnm, hlm, hmm, hrm⟩ := hvm; (try simp only [List.length_cons, List.length_nil, Nat.zero_add, Nat.reduceAdd] at hnm); subst hnm) | (have hvs := hvm; obtain ⟨bm1, bm2, bm3, rfl, hbl, hbz, hbc⟩ := hvm))
             intro K hK
             go_wp2_with ((first | (go_at_call 38; (with_reducible refine (span_val0 r c f t _).mono ?_); rintro e w' ⟨vx, rfl, hRx, hux⟩) | (go_at_call 37; (with_reducible refine (collect_span HSP.out HL.out hvs).mono ?_); rintro e w' ⟨Ax, cx, rfl, hRx, hux⟩) | (go_at_call 36; (with_reducible refine (eq_ms (by assumption) (HRW.out.up (up_upOf _ _)) hll rfl).mono ?_); rintro e w' ⟨rfl, hux⟩) | (go_at_call 36; (with_reducible refine (eq_ms (by assumption) (HRD.out.up (up_upOf _ _)) hkl HQ.out).mono ?_); rintro e w' ⟨rfl, hux⟩) | (go_at_call 39; (with_reducible refine (len_ms HSP.out HN.out).mono ?_); rintro e w' ⟨rfl, hux⟩) | (go_at_call 40; (with_reducible refine (lspan_ms HSP.out HL.out HN.out HK.out hs6 hs7 HX.out).mono ?_); rintro e w' ⟨Ax, cx, rfl, hRx, hux⟩)))
             apply hK
             · (repeat (first | with_reducible exact Up.refl _ | with_reducible refine Up.alloc ?_ _ | with_reducible refine Up.drew ?_ | with_reducible refine Up.drewN ?_ _ | with_reducible refine Up.setCell ?_ (by (try simp) <;> omega) _ | with_reducible assumption | with_reducible refine Up.trans ?_ (by assumption)))
             · rfl
             · exact tmps_at rfl
             · first | exact rsl_lit _ _ _ _ _ _ rfl rfl (by simp [maxLen]) rfl | exact ⟨_, _, rfl, hgm, hcm⟩ | exact ⟨_, _, rfl, hgm, hdm⟩ | assumption
           simp only [Act.put, List.setIfInBounds_toArray, List.set_cons_succ, List.set_cons_zero]))
      refine mix_nil ?_
      intro wm hb_wm
      simp only [fin]
      intro vm_wm_0 hvm_wm_0
      intro vm_wm_1 hvm_wm_1
      intro vm_wm_2 hvm_wm_2
      simp only [Act.put, List.setIfInBounds_toArray, List.set_cons_succ, List.set_cons_zero]
      have hu_wm : Up w2 wm := by (repeat (first | with_reducible exact Up.refl _ | with_reducible refine Up.alloc ?_ _ | with_reducible refine Up.drew ?_ | with_reducible refine Up.drewN ?_ _ | with_reducible refine Up.setCell ?_ (by (try simp) <;> omega) _ | with_reducible assumption | with_reducible refine Up.trans ?_ (by assumption)))
      have hz_wm := Up.size hb_wm
      try simp at hz_wm
      obtain ⟨bc_wm_0, bf_wm_0⟩ := hu_wm.at_ (w.heap.size) (by omega)
      obtain ⟨bc_wm_1, bf_wm_1⟩ := hu_wm.at_ (w1.heap.size) (by omega)
      have zb_wm_0 : w.heap.size < wm.heap.size := by omega
      have zb_wm_1 : w1.heap.size < wm.heap.size := by omega
      go_wp2_with fail
      go_ret
      exact ⟨rfl, by (repeat (first | with_reducible exact Up.refl _ | with_reducible refine Up.alloc ?_ _ | with_reducible refine Up.drew ?_ | with_reducible refine Up.drewN ?_ _ | with_reducible refine Up.setCell ?_ (by (try simp) <;> omega) _ | with_reducible assumption | with_reducible refine Up.trans ?_ (by assumption)))⟩
end Go.Proofs.Ytejnblncnpfkaaa
