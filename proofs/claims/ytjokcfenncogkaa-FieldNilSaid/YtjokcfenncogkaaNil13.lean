/-
  Of no space: field's iterators and functions. No condition.
-/
import Derived.Test.YtjokcfenncogkaaCollN
import Derived.Test.YtjokcfenncogkaaLen13
import Derived.Test.YtjokcfenncogkaaAw13
namespace Go.Proofs.Ytjokcfenncogkaa
open Go.RowKit Go.Shelf
set_option linter.unusedVariables false
set_option linter.unusedSimpArgs false
attribute [local go_sem] Oper.semAt_some

theorem valid_zero13 : validB 0 0 = false := by decide
set_option maxHeartbeats 3200000 in
theorem all_none {b : Nat} : ItN Try.prog 158 #[.pointer (some ⟨b, 0, none⟩)] encPC (fun _ => False) (fun _ => True) (fun W => W.cell? ⟨b, 0, none⟩ = some (.pointer none)) (fun _ _ _ => False) (fun xs => xs = []) (fun _ => False) := by
  intro k l J Jx N0 W hJ hJx hV hT hNz hV0 hY h0
  refine callsIn_of_wp Try.func158 rfl trivial ?_ rfl
  simp only [Try.ntmps158, List.size_toArray, List.length_cons, List.length_nil, Nat.reduceAdd, Nat.reduceSub, Array.replicate_succ, Array.replicate_zero, List.push_toArray, List.append_toArray, List.nil_append, List.cons_append]
  have hb := hV _ _ _ h0
  have zb := cell_lt hb
  have HJ := Lib.hid hJ
  have H0 := Lib.hid h0
  clear hY hJ hJx hV h0 hT hV0 hNz
  gi_wp2_with (first
    | (refine ⟨trivial, (fun h => by simp [Fence.wide] at h), ?_⟩; gi_at_call 25; (with_reducible refine (callsIn_wide.2 ssize_nil).mono ?_); rintro e w2 ⟨rfl, hu2⟩)
    | (refine ⟨trivial, (fun h => by simp [Fence.wide] at h), ?_⟩; gi_at_call 26; (with_reducible refine (callsIn_wide.2 (cells_bad _ _ _ valid_zero13)).mono ?_); rintro e w3 ⟨rfl, hu3⟩))
  have HJ3 := Lib.hid (HJ.out.up (HJ.out.up H0.out hu2) hu3)
  clear hu2 hu3 hb
  gi_loopw [3, 7] (fun _ i wr => i = .int .i64 0 ∧ J N0 [] wr) (fun _ i _ => 0)
  case atStart => exact ⟨rfl, HJ3.out⟩
  case round =>
    obtain ⟨rfl, hJs⟩ := hrel
    have HJS := Lib.hid hJs
    clear hJs
    gi_wp2
    go_end0
    exact ⟨⟨_, rfl⟩, .inl ⟨_, rfl, HJS.out⟩⟩
theorem sat_none13 (n : Int) (w : World) : Calls Try.prog 27 #[.pointer none, .int .i64 n] w fun e w' => e = .returned (.agg #[.int .u8 0, .bool false, .int .u8 0, .int .u8 0, .int .u8 0, .int .u8 0]) ∧ Up w w' := sat_nil
theorem enters_fields : ∀ args w, (callFunc 129 args).run Try.prog w = .ok (.enter 129 args) w := enters_of Try.func129 (by kernel_rfl) rfl
theorem enters_modified : ∀ args w, (callFunc 132 args).run Try.prog w = .ok (.enter 132 args) w := enters_of Try.func132 (by kernel_rfl) rfl
theorem fields_val (v : Option Addr) (w : World) :
    Calls Try.prog 73 #[.pointer v] w fun e w' => ∃ b, e = .returned (.func (.func 129) #[] #[.pointer (some ⟨b, 0, none⟩)]) ∧ w.heap.size ≤ b ∧ b < w'.heap.size ∧ w'.cell? ⟨b, 0, none⟩ = some (.pointer v) ∧ w'.frozen? ⟨b, 0, none⟩ = false ∧ Up w w' := by
  go_enter Try.func73, Try.ntmps73
  go_wp2
  go_ret
  exact ⟨w.heap.size, rfl, Nat.le_refl _, by simp, by simp [go_sem], by simp [go_sem], by (repeat (first | with_reducible exact Up.refl _ | with_reducible refine Up.alloc ?_ _ | with_reducible refine Up.drew ?_ | with_reducible refine Up.drewN ?_ _ | with_reducible refine Up.setCell ?_ (by (try simp) <;> omega) _ | with_reducible assumption | with_reducible refine Up.trans ?_ (by assumption)))⟩
theorem modified_val (v : Option Addr) (w : World) :
    Calls Try.prog 85 #[.pointer v] w fun e w' => ∃ b, e = .returned (.func (.func 132) #[] #[.pointer (some ⟨b, 0, none⟩)]) ∧ w.heap.size ≤ b ∧ b < w'.heap.size ∧ w'.cell? ⟨b, 0, none⟩ = some (.pointer v) ∧ w'.frozen? ⟨b, 0, none⟩ = false ∧ Up w w' := by
  go_enter Try.func85, Try.ntmps85
  go_wp2
  go_ret
  exact ⟨w.heap.size, rfl, Nat.le_refl _, by simp, by simp [go_sem], by simp [go_sem], by (repeat (first | with_reducible exact Up.refl _ | with_reducible refine Up.alloc ?_ _ | with_reducible refine Up.drew ?_ | with_reducible refine Up.drewN ?_ _ | with_reducible refine Up.setCell ?_ (by (try simp) <;> omega) _ | with_reducible assumption | with_reducible refine Up.trans ?_ (by assumption)))⟩
set_option maxRecDepth 100000 in
set_option maxHeartbeats 3200000 in
theorem attrs_nil {b : Nat} : ItN Try.prog 157 #[.pointer (some ⟨b, 0, none⟩)] (fun x : Int => #[.int .i64 x]) (fun _ => False) (fun _ => True) (fun W => W.cell? ⟨b, 0, none⟩ = some (.pointer none)) (fun _ _ _ => False) (fun xs => xs = []) (fun _ => False) := by
  intro k l J Jx N0 W hJ hJx hV hT hNz hV0 hY h0
  refine callsIn_of_wp_marks Try.func157 rfl trivial ?_ rfl
  simp only [Try.ntmps157, List.size_toArray, List.length_cons, List.length_nil, Nat.reduceAdd, Nat.reduceSub, Array.replicate_succ, Array.replicate_zero, List.push_toArray, List.append_toArray, List.nil_append, List.cons_append]
  have hb := hV _ _ _ h0
  have zb := cell_lt hb
  have HJ := Lib.hid hJ
  have H0 := Lib.hid h0
  have HNZ := Lib.hid hNz
  clear hY hJ hJx hV h0 hT hV0 hNz
  refine wpIn_wide.2 ?_
  go_wp2_with fail
  refine (all_val _ _).mono ?_
  rintro e w3 ⟨b2, rfl, hb2, hb2', hc2, -, hu3⟩
  have HU3 := Lib.hid (show Up W w3 by (repeat (first | with_reducible exact Up.refl _ | with_reducible refine Up.alloc ?_ _ | with_reducible refine Up.drew ?_ | with_reducible refine Up.drewN ?_ _ | with_reducible refine Up.setCell ?_ (by (try simp) <;> omega) _ | with_reducible assumption | with_reducible refine Up.trans ?_ (by assumption))))
  have hzw : W.heap.size ≤ w3.heap.size := HU3.out.size
  have HJ3 := Lib.hid (HJ.out.up H0.out HU3.out)
  have HB2 := Lib.hid (show W.heap.size ≤ b2 by (try simp at hb2); omega)
  clear hb2 hu3
  have HC2 := Lib.hid hc2
  clear hc2
  go_wp2_with fail
  refine wpIn_wide.1 (range_n (n := k) (gf := 158) (lb := #[.pointer (some ⟨b2, 0, none⟩)]) rfl enters_all (all_none (b := b2)) (fun _ => rfl)
    N0 (fun k hk => by have := HNZ.out k hk; omega) (fun k hk => hk.elim) (fun _ _ => trivial)
    (fun N pre A => J N [] A ∧ A.cell? ⟨b2, 0, none⟩ = some (.pointer none) ∧ ¬ N b2) (fun c N xs W => False)
    ?own (fun _ _ _ _ _ _ h _ _ => h) (fun N pre W h => h.2.1) ⟨HJ3.out, HC2.out, fun h => by have := HNZ.out _ h; have := HB2.out; omega⟩
    (fun _ _ _ _ _ => False) (fun _ _ _ _ _ _ _ _ h _ _ => h) (fun _ _ _ _ _ _ _ _ hG _ => hG.elim) (fun _ _ _ _ _ _ _ _ _ _ h => h.elim) ?done (fun _ _ _ _ _ _ _ _ h _ _ => h.elim))
  case own =>
    rintro N N' s A A' ⟨h1, h2, h3⟩ hk hn
    have z := cell_lt h2
    refine ⟨HJ.out _ _ _ _ _ h1 hk hn, ((hk.at_ b2 z h3).1 0).trans h2, fun h => ?_⟩
    rcases hn _ h with h | h
    · exact h3 h
    · have : b2 < A.heap.size := z; omega
  case done =>
    rintro Dd N xs A hD hND hN0 hS ⟨hI, hc, hn⟩ hK
    have HI := Lib.hid hI
    have HK := Lib.hid hK
    have HN0 := Lib.hid hN0
    have HND := Lib.hid hND
    clear hI hK hN0 hND
    go_wp2
    refine ⟨by simp, .inl ⟨_, _, rfl, run_takeDeferred HK.out, ?_⟩⟩
    exact ⟨_, results_none rfl _ _ _, ⟨_, rfl⟩, .inl ⟨[], rfl, HJ.out.less (HJ.out _ _ _ _ _ HI.out (keep_put _ HND.out) (fun k hk => .inl hk)) (fun k hk => HN0.out k hk)⟩⟩
set_option maxRecDepth 100000 in
set_option maxHeartbeats 3200000 in
theorem fields_nil {b : Nat} : ItN Try.prog 129 #[.pointer (some ⟨b, 0, none⟩)] (fun x : Int × Value => #[.int .i64 x.1, x.2]) (fun _ => False) (fun _ => True) (fun W => W.cell? ⟨b, 0, none⟩ = some (.pointer none)) (fun _ _ _ => False) (fun xs => xs = []) (fun _ => False) := by
  intro k l J Jx N0 W hJ hJx hV hT hNz hV0 hY h0
  refine callsIn_of_wp_marks Try.func129 rfl trivial ?_ rfl
  simp only [Try.ntmps129, List.size_toArray, List.length_cons, List.length_nil, Nat.reduceAdd, Nat.reduceSub, Array.replicate_succ, Array.replicate_zero, List.push_toArray, List.append_toArray, List.nil_append, List.cons_append]
  have hb := hV _ _ _ h0
  have zb := cell_lt hb
  have HJ := Lib.hid hJ
  have H0 := Lib.hid h0
  have HNZ := Lib.hid hNz
  clear hY hJ hJx hV h0 hT hV0 hNz
  refine wpIn_wide.2 ?_
  go_wp2_with fail
  refine (attrs_val _ _).mono ?_
  rintro e w3 ⟨b2, rfl, hb2, hb2', hc2, -, hu3⟩
  have HU3 := Lib.hid (show Up W w3 by (repeat (first | with_reducible exact Up.refl _ | with_reducible refine Up.alloc ?_ _ | with_reducible refine Up.drew ?_ | with_reducible refine Up.drewN ?_ _ | with_reducible refine Up.setCell ?_ (by (try simp) <;> omega) _ | with_reducible assumption | with_reducible refine Up.trans ?_ (by assumption))))
  have hzw : W.heap.size ≤ w3.heap.size := HU3.out.size
  have HJ3 := Lib.hid (HJ.out.up H0.out HU3.out)
  have HB2 := Lib.hid (show W.heap.size ≤ b2 by (try simp at hb2); omega)
  clear hb2 hu3
  have HC2 := Lib.hid hc2
  clear hc2
  go_wp2_with fail
  refine wpIn_wide.1 (range_n (n := k) (gf := 157) (lb := #[.pointer (some ⟨b2, 0, none⟩)]) rfl enters_attrs (attrs_nil (b := b2)) (fun _ => rfl)
    N0 (fun k hk => by have := HNZ.out k hk; omega) (fun k hk => hk.elim) (fun _ _ => trivial)
    (fun N pre A => J N [] A ∧ A.cell? ⟨b2, 0, none⟩ = some (.pointer none) ∧ ¬ N b2) (fun c N xs W => False)
    ?own (fun _ _ _ _ _ _ h _ _ => h) (fun N pre W h => h.2.1) ⟨HJ3.out, HC2.out, fun h => by have := HNZ.out _ h; have := HB2.out; omega⟩
    (fun _ _ _ _ _ => False) (fun _ _ _ _ _ _ _ _ h _ _ => h) (fun _ _ _ _ _ _ _ _ hG _ => hG.elim) (fun _ _ _ _ _ _ _ _ _ _ h => h.elim) ?done (fun _ _ _ _ _ _ _ _ h _ _ => h.elim))
  case own =>
    rintro N N' s A A' ⟨h1, h2, h3⟩ hk hn
    have z := cell_lt h2
    refine ⟨HJ.out _ _ _ _ _ h1 hk hn, ((hk.at_ b2 z h3).1 0).trans h2, fun h => ?_⟩
    rcases hn _ h with h | h
    · exact h3 h
    · have : b2 < A.heap.size := z; omega
  case done =>
    rintro Dd N xs A hD hND hN0 hS ⟨hI, hc, hn⟩ hK
    have HI := Lib.hid hI
    have HK := Lib.hid hK
    have HN0 := Lib.hid hN0
    have HND := Lib.hid hND
    clear hI hK hN0 hND
    go_wp2
    refine ⟨by simp, .inl ⟨_, _, rfl, run_takeDeferred HK.out, ?_⟩⟩
    exact ⟨_, results_none rfl _ _ _, ⟨_, rfl⟩, .inl ⟨[], rfl, HJ.out.less (HJ.out _ _ _ _ _ HI.out (keep_put _ HND.out) (fun k hk => .inl hk)) (fun k hk => HN0.out k hk)⟩⟩
set_option maxRecDepth 100000 in
set_option maxHeartbeats 3200000 in
theorem modified_nil {b : Nat} : ItN Try.prog 132 #[.pointer (some ⟨b, 0, none⟩)] (fun x : Int => #[.int .i64 x]) (fun _ => False) (fun _ => True) (fun W => W.cell? ⟨b, 0, none⟩ = some (.pointer none)) (fun _ _ _ => False) (fun xs => xs = []) (fun _ => False) := by
  intro k l J Jx N0 W hJ hJx hV hT hNz hV0 hY h0
  refine callsIn_of_wp_marks Try.func132 rfl trivial ?_ rfl
  simp only [Try.ntmps132, List.size_toArray, List.length_cons, List.length_nil, Nat.reduceAdd, Nat.reduceSub, Array.replicate_succ, Array.replicate_zero, List.push_toArray, List.append_toArray, List.nil_append, List.cons_append]
  have hb := hV _ _ _ h0
  have zb := cell_lt hb
  have HJ := Lib.hid hJ
  have H0 := Lib.hid h0
  have HNZ := Lib.hid hNz
  clear hY hJ hJx hV h0 hT hV0 hNz
  refine wpIn_wide.2 ?_
  go_wp2_with fail
  refine (fields_val _ _).mono ?_
  rintro e w3 ⟨b2, rfl, hb2, hb2', hc2, -, hu3⟩
  have HU3 := Lib.hid (show Up W w3 by (repeat (first | with_reducible exact Up.refl _ | with_reducible refine Up.alloc ?_ _ | with_reducible refine Up.drew ?_ | with_reducible refine Up.drewN ?_ _ | with_reducible refine Up.setCell ?_ (by (try simp) <;> omega) _ | with_reducible assumption | with_reducible refine Up.trans ?_ (by assumption))))
  have hzw : W.heap.size ≤ w3.heap.size := HU3.out.size
  have HJ3 := Lib.hid (HJ.out.up H0.out HU3.out)
  have HB2 := Lib.hid (show W.heap.size ≤ b2 by (try simp at hb2); omega)
  clear hb2 hu3
  have HC2 := Lib.hid hc2
  clear hc2
  go_wp2_with fail
  refine wpIn_wide.1 (range_n (n := k) (gf := 129) (lb := #[.pointer (some ⟨b2, 0, none⟩)]) rfl enters_fields (fields_nil (b := b2)) (fun _ => rfl)
    N0 (fun k hk => by have := HNZ.out k hk; omega) (fun k hk => hk.elim) (fun _ _ => trivial)
    (fun N pre A => J N [] A ∧ A.cell? ⟨b2, 0, none⟩ = some (.pointer none) ∧ ¬ N b2) (fun c N xs W => False)
    ?own (fun _ _ _ _ _ _ h _ _ => h) (fun N pre W h => h.2.1) ⟨HJ3.out, HC2.out, fun h => by have := HNZ.out _ h; have := HB2.out; omega⟩
    (fun _ _ _ _ _ => False) (fun _ _ _ _ _ _ _ _ h _ _ => h) (fun _ _ _ _ _ _ _ _ hG _ => hG.elim) (fun _ _ _ _ _ _ _ _ _ _ h => h.elim) ?done (fun _ _ _ _ _ _ _ _ h _ _ => h.elim))
  case own =>
    rintro N N' s A A' ⟨h1, h2, h3⟩ hk hn
    have z := cell_lt h2
    refine ⟨HJ.out _ _ _ _ _ h1 hk hn, ((hk.at_ b2 z h3).1 0).trans h2, fun h => ?_⟩
    rcases hn _ h with h | h
    · exact h3 h
    · have : b2 < A.heap.size := z; omega
  case done =>
    rintro Dd N xs A hD hND hN0 hS ⟨hI, hc, hn⟩ hK
    have HI := Lib.hid hI
    have HK := Lib.hid hK
    have HN0 := Lib.hid hN0
    have HND := Lib.hid hND
    clear hI hK hN0 hND
    go_wp2
    refine ⟨by simp, .inl ⟨_, _, rfl, run_takeDeferred HK.out, ?_⟩⟩
    exact ⟨_, results_none rfl _ _ _, ⟨_, rfl⟩, .inl ⟨[], rfl, HJ.out.less (HJ.out _ _ _ _ _ HI.out (keep_put _ HND.out) (fun k hk => .inl hk)) (fun k hk => HN0.out k hk)⟩⟩
set_option maxRecDepth 100000 in
set_option maxHeartbeats 3200000 in
theorem places_nil {b b2 : Nat} {a : Int} : ItN Try.prog 130 #[.pointer (some ⟨b, 0, none⟩), .pointer (some ⟨b2, 0, none⟩)] (fun x : Int => #[.int .i64 x]) (fun k => k = b2) (fun W => W.cell? ⟨b2, 0, none⟩ = some (.int .i64 a) ∧ W.frozen? ⟨b2, 0, none⟩ = false) (fun W => W.cell? ⟨b, 0, none⟩ = some (.pointer none)) (fun _ _ _ => False) (fun xs => xs = []) (fun _ => False) := by
  intro k l J Jx N0 W hJ hJx hV hT hNz hV0 hY h0
  refine callsIn_of_wp Try.func130 rfl trivial ?_ rfl
  simp only [Try.ntmps130, List.size_toArray, List.length_cons, List.length_nil, Nat.reduceAdd, Nat.reduceSub, Array.replicate_succ, Array.replicate_zero, List.push_toArray, List.append_toArray, List.nil_append, List.cons_append]
  have hb := hV _ _ _ h0
  obtain ⟨q1, q2⟩ := hV0
  have zb := cell_lt hb
  have zb2 := cell_lt q1
  simp only at zb zb2
  have hNb2 : N0 b2 := hT _ rfl
  have HJ := Lib.hid hJ
  have H0 := Lib.hid h0
  clear hY hJ hJx hV h0 hT hNz
  refine wpIn_wide.2 ?_
  go_wp2_with fail
  refine ssize_nil.mono ?_
  rintro e w1 ⟨rfl, hu1⟩
  have z1 := hu1.size
  have b1 := ((hu1.at_ b zb).1 0).trans hb
  have d1 := ((hu1.at_ b2 zb2).1 0).trans q1
  have f1 := ((hu1.at_ b2 zb2).2 0).trans q2
  have zb' : b < w1.heap.size := by omega
  have zb2' : b2 < w1.heap.size := by omega
  clear hb q1 q2
  go_wp2_with fail
  refine (wrap_bad _ _ _ _ valid_zero13).mono ?_
  rintro e w2 ⟨rfl, hu2⟩
  have z2 := hu2.size
  simp at z2
  have hbb := hu2.at_ b (by simp; omega)
  have hbd := hu2.at_ b2 (by simp; omega)
  have b3 := (hbb.1 0).trans (by simpa [go_sem, World.cell?_alloc_lt _ _ ⟨b, 0, none⟩ zb'] using b1 : _ = some (.pointer none))
  have d3 := (hbd.1 0).trans (by simpa [go_sem, World.cell?_alloc_lt _ _ ⟨b2, 0, none⟩ zb2'] using d1 : _ = some (.int .i64 a))
  have f3 := (hbd.2 0).trans ((((Up.refl w1).alloc _).at_ b2 zb2').2 0 |>.trans f1)
  have hne : b ≠ b2 := fun e => by subst e; rw [b3] at d3; cases d3
  have HJ2 := Lib.hid (show J N0 [] (w2.setCell ⟨b2, 0, none⟩ (.int .i64 0)) from HJ.out _ _ _ _ _ H0.out (((Keep.of_up (hu1.trans (((Up.refl w1).alloc _).trans hu2)))).setCell (.inl hNb2) _) (fun k hk => .inl hk))
  obtain ⟨W3, hW3⟩ : ∃ W3, w2.setCell ⟨b2, 0, none⟩ (.int .i64 0) = W3 := ⟨_, rfl⟩
  have b4 : W3.cell? ⟨b, 0, none⟩ = some (.pointer none) := by rw [← hW3]; exact (World.cell?_setCell_other _ _ _ _ (by simp <;> exact fun e => hne e.symm)).trans b3
  have d4 : W3.cell? ⟨b2, 0, none⟩ = some (.int .i64 0) := by rw [← hW3]; exact World.cell?_setCell_same (h := d3) ..
  rw [hW3] at HJ2
  clear hbb hbd hu1 hu2 b1 d1 f1
  go_wp2_with fail
  try simp only [hW3]
  try go_wp2_with fail
  refine (sat_none13 _ _).mono ?_
  rintro e w4 ⟨rfl, hu4⟩
  have fC := fldC1
  have HJ4 := Lib.hid (HJ.out.up HJ2.out hu4)
  clear hu4 b4 d4 b3 d3 f3 hW3
  go_wp2_with fail
  refine bodyPost_ret (results_none rfl _ _ _) rfl ?_
  exact ⟨⟨_, rfl⟩, .inl ⟨[], rfl, HJ4.out⟩⟩
/-- blocks from B on are new, and the box b holds v -/
structure InV (w : World) (b : Nat) (v : Value) (N : Nat → Prop) (W : World) : Prop where
  up : Up w W
  hb : W.cell? ⟨b, 0, none⟩ = some v
  nb : ¬ N b
  nw : ∀ k, N k → w.heap.size ≤ k
theorem InV.keep {w : World} {b : Nat} {v : Value} {N N' : Nat → Prop} {W W' : World} (h : InV w b v N W) (hk : Keep N W W') (hn : ∀ k, N' k → N k ∨ (W.heap.size ≤ k ∧ k < W'.heap.size)) : InV w b v N' W' := by
  obtain ⟨h1, h2, h3, h4⟩ := h
  have z := cell_lt h2
  refine ⟨h1.keep hk h4, ((hk.at_ b z h3).1 0).trans h2, fun h => ?_, fun k h => ?_⟩
  · rcases hn _ h with h | h
    · exact h3 h
    · have : b < W.heap.size := z; omega
  · rcases hn _ h with h | h
    · exact h4 k h
    · have := h1.size; omega
set_option maxRecDepth 100000 in
set_option maxHeartbeats 3200000 in
theorem funmodify_nil {w : World} :
    Calls Try.prog 87 #[.pointer none] w fun e w' => e = .returned (.tuple #[]) ∧ Up w w' := by
  refine (callsIn_wide (n := 9)).1 ?_
  refine callsIn_of_wp_marks Try.func87 rfl trivial ?_ rfl
  simp only [Try.ntmps87, List.size_toArray, List.length_cons, List.length_nil, Nat.reduceAdd, Nat.reduceSub, Array.replicate_succ, Array.replicate_zero, List.push_toArray, List.append_toArray, List.nil_append, List.cons_append]
  refine wpIn_wide.2 ?_
  go_wp2_with fail
  refine (attrs_val _ _).mono ?_
  rintro e w3 ⟨b, rfl, hb, hz, hcb, hfb, hu3⟩
  simp at hb hz
  obtain ⟨k1, f1⟩ := hu3.at_ (w.heap.size) (by (try simp) <;> omega)
  have c1 : w3.cell? ⟨w.heap.size, 0, none⟩ = some (.pointer none) := (k1 0).trans (by simp [go_sem])
  have HU := Lib.hid (show Up w w3 by (repeat (first | with_reducible exact Up.refl _ | with_reducible refine Up.alloc ?_ _ | with_reducible refine Up.drew ?_ | with_reducible refine Up.drewN ?_ _ | with_reducible refine Up.setCell ?_ (by (try simp) <;> omega) _ | with_reducible assumption | with_reducible refine Up.trans ?_ (by assumption))))
  have HB : Hid (b ≠ w.heap.size ∧ b < w3.heap.size) := Lib.hid (by omega)
  have HC1 := Lib.hid c1
  have HCB := Lib.hid hcb
  clear k1 f1 hu3 hb hz c1 hcb
  go_wp2_with fail
  refine wpIn_wide.1 (range_n (n := 9) (gf := 157) (lb := #[.pointer (some ⟨b, 0, none⟩)]) rfl enters_attrs (attrs_nil (b := b)) (fun _ => rfl)
    (fun _ => False) (fun k hk => hk.elim) (fun k hk => hk.elim) (fun _ _ => trivial)
    (fun N pre W => InV w (w.heap.size) (.pointer none) N W ∧ InV w b (.pointer none) N W) (fun c N xs W => False)
    (fun N N' s A A' h hk hn => ⟨h.1.keep hk hn, h.2.keep hk hn⟩) (fun _ _ _ _ _ _ h _ _ => h)
    (fun N pre W h => h.2.hb) ⟨⟨HU.out, HC1.out, fun h => h, fun k h => h.elim⟩, ⟨HU.out, HCB.out, fun h => h, fun k h => h.elim⟩⟩
    (fun _ _ _ _ _ => False) (fun _ _ _ _ _ _ _ _ h _ _ => h) (fun _ _ _ _ _ _ _ _ hG _ => hG.elim) (fun _ _ _ _ _ _ _ _ _ _ h => h.elim) ?done (fun _ _ _ _ _ _ _ _ h _ _ => h.elim))
  case done =>
    rintro Dd N xs W hD hND hN0 hS ⟨hI, hI2⟩ hK
    have h2 := hI.hb
    have zo := cell_lt h2
    have HI := Lib.hid hI
    have HK := Lib.hid hK
    have HND := Lib.hid hND
    clear hI hI2 hK hND
    go_wp2
    refine ⟨by simp, .inl ⟨_, _, rfl, run_takeDeferred HK.out, ?_⟩⟩
    exact ⟨_, results_none rfl _ _ _, rfl, (HI.out.keep (N' := N) (keep_put _ HND.out) (fun k h => .inl h)).up⟩
set_option maxRecDepth 100000 in
set_option maxHeartbeats 3200000 in
theorem flength_nil {n : Int} {w : World} :
    Calls Try.prog 76 #[.pointer none, .int .i64 n] w fun e w' => e = .returned (.int .i64 0) ∧ Up w w' := by
  refine (callsIn_wide (n := 9)).1 ?_
  refine callsIn_of_wp_marks Try.func76 rfl trivial ?_ rfl
  simp only [Try.ntmps76, List.size_toArray, List.length_cons, List.length_nil, Nat.reduceAdd, Nat.reduceSub, Array.replicate_succ, Array.replicate_zero, List.push_toArray, List.append_toArray, List.nil_append, List.cons_append]
  refine wpIn_wide.2 ?_
  go_wp2_with fail
  refine (places_val _ _ _).mono ?_
  rintro e w3 ⟨b, b2, rfl, hb, hb2, hz, hcb, hcb2, hfb2, hu3⟩
  simp at hb hz hb2
  obtain ⟨k1, f1⟩ := hu3.at_ (w.heap.size) (by (try simp) <;> omega)
  have c1 : w3.cell? ⟨w.heap.size, 0, none⟩ = some (.int .i64 0) := (k1 0).trans (by simp [go_sem])
  have HU := Lib.hid (show Up w w3 by (repeat (first | with_reducible exact Up.refl _ | with_reducible refine Up.alloc ?_ _ | with_reducible refine Up.drew ?_ | with_reducible refine Up.drewN ?_ _ | with_reducible refine Up.setCell ?_ (by (try simp) <;> omega) _ | with_reducible assumption | with_reducible refine Up.trans ?_ (by assumption))))
  have HB : Hid (b ≠ w.heap.size ∧ b ≠ b2 ∧ w.heap.size ≠ b2 ∧ b < w3.heap.size ∧ b2 < w3.heap.size ∧ w.heap.size ≤ b2) := Lib.hid (by omega)
  have HC1 := Lib.hid c1
  have HCB := Lib.hid hcb
  clear k1 f1 hu3 hb hz c1 hcb hb2
  go_wp2_with fail
  refine wpIn_wide.1 (range_n (n := 9) (gf := 130) (lb := #[.pointer (some ⟨b, 0, none⟩), .pointer (some ⟨b2, 0, none⟩)]) rfl enters_places (places_nil (b := b) (b2 := b2) (a := n)) (fun _ => rfl)
    (fun k => k = b2) (fun k hk => by have := HB.out; omega) (fun k hk => hk) (fun W hu => ⟨((hu.at_ b2 HB.out.2.2.2.2.1).1 0).trans hcb2, ((hu.at_ b2 HB.out.2.2.2.2.1).2 0).trans hfb2⟩)
    (fun N pre W => InV w (w.heap.size) (.int .i64 0) N W ∧ InV w b (.pointer none) N W) (fun c N xs W => False)
    (fun N N' s A A' h hk hn => ⟨h.1.keep hk hn, h.2.keep hk hn⟩) (fun _ _ _ _ _ _ h _ _ => h)
    (fun N pre W h => h.2.hb) ⟨⟨HU.out, HC1.out, fun h => by have := HB.out; omega, fun k h => by have := HB.out; omega⟩, ⟨HU.out, HCB.out, fun h => by have := HB.out; omega, fun k h => by have := HB.out; omega⟩⟩
    (fun _ _ _ _ _ => False) (fun _ _ _ _ _ _ _ _ h _ _ => h) (fun _ _ _ _ _ _ _ _ hG _ => hG.elim) (fun _ _ _ _ _ _ _ _ _ _ h => h.elim) ?done (fun _ _ _ _ _ _ _ _ h _ _ => h.elim))
  case done =>
    rintro Dd N xs W hD hND hN0 hS ⟨hI, hI2⟩ hK
    have h2 := hI.hb
    have zo := cell_lt h2
    have HI := Lib.hid hI
    have HK := Lib.hid hK
    have HND := Lib.hid hND
    clear hI hI2 hK hND
    go_wp2
    refine ⟨by simp, .inl ⟨_, _, rfl, run_takeDeferred HK.out, ?_⟩⟩
    exact ⟨_, results_tmp rfl _ _ _, rfl, (HI.out.keep (N' := N) (keep_put _ HND.out) (fun k h => .inl h)).up⟩
set_option maxRecDepth 100000 in
set_option maxHeartbeats 3200000 in
theorem ftext_nil {n : Int} {w : World} :
    Calls Try.prog 78 #[.pointer none, .int .i64 n] w fun e w' => e = .returned (.slice none 0 0) ∧ Up w w' := by
  refine (callsIn_wide (n := 9)).1 ?_
  refine callsIn_of_wp_marks Try.func78 rfl trivial ?_ rfl
  simp only [Try.ntmps78, List.size_toArray, List.length_cons, List.length_nil, Nat.reduceAdd, Nat.reduceSub, Array.replicate_succ, Array.replicate_zero, List.push_toArray, List.append_toArray, List.nil_append, List.cons_append]
  refine wpIn_wide.2 ?_
  go_wp2_with fail
  refine (places_val _ _ _).mono ?_
  rintro e w3 ⟨b, b2, rfl, hb, hb2, hz, hcb, hcb2, hfb2, hu3⟩
  simp at hb hz hb2
  obtain ⟨k1, f1⟩ := hu3.at_ (w.heap.size + 1) (by (try simp) <;> omega)
  have c1 : w3.cell? ⟨w.heap.size + 1, 0, none⟩ = some (.slice none 0 0) := (k1 0).trans (by simp [go_sem])
  have HU := Lib.hid (show Up w w3 by (repeat (first | with_reducible exact Up.refl _ | with_reducible refine Up.alloc ?_ _ | with_reducible refine Up.drew ?_ | with_reducible refine Up.drewN ?_ _ | with_reducible refine Up.setCell ?_ (by (try simp) <;> omega) _ | with_reducible assumption | with_reducible refine Up.trans ?_ (by assumption))))
  have HB : Hid (b ≠ w.heap.size + 1 ∧ b ≠ b2 ∧ w.heap.size + 1 ≠ b2 ∧ b < w3.heap.size ∧ b2 < w3.heap.size ∧ w.heap.size ≤ b2) := Lib.hid (by omega)
  have HC1 := Lib.hid c1
  have HCB := Lib.hid hcb
  clear k1 f1 hu3 hb hz c1 hcb hb2
  go_wp2_with fail
  refine wpIn_wide.1 (range_n (n := 9) (gf := 130) (lb := #[.pointer (some ⟨b, 0, none⟩), .pointer (some ⟨b2, 0, none⟩)]) rfl enters_places (places_nil (b := b) (b2 := b2) (a := n)) (fun _ => rfl)
    (fun k => k = b2) (fun k hk => by have := HB.out; omega) (fun k hk => hk) (fun W hu => ⟨((hu.at_ b2 HB.out.2.2.2.2.1).1 0).trans hcb2, ((hu.at_ b2 HB.out.2.2.2.2.1).2 0).trans hfb2⟩)
    (fun N pre W => InV w (w.heap.size + 1) (.slice none 0 0) N W ∧ InV w b (.pointer none) N W) (fun c N xs W => False)
    (fun N N' s A A' h hk hn => ⟨h.1.keep hk hn, h.2.keep hk hn⟩) (fun _ _ _ _ _ _ h _ _ => h)
    (fun N pre W h => h.2.hb) ⟨⟨HU.out, HC1.out, fun h => by have := HB.out; omega, fun k h => by have := HB.out; omega⟩, ⟨HU.out, HCB.out, fun h => by have := HB.out; omega, fun k h => by have := HB.out; omega⟩⟩
    (fun _ _ _ _ _ => False) (fun _ _ _ _ _ _ _ _ h _ _ => h) (fun _ _ _ _ _ _ _ _ hG _ => hG.elim) (fun _ _ _ _ _ _ _ _ _ _ h => h.elim) ?done (fun _ _ _ _ _ _ _ _ h _ _ => h.elim))
  case done =>
    rintro Dd N xs W hD hND hN0 hS ⟨hI, hI2⟩ hK
    have h2 := hI.hb
    have zo := cell_lt h2
    have HI := Lib.hid hI
    have HK := Lib.hid hK
    have HND := Lib.hid hND
    clear hI hI2 hK hND
    go_wp2
    refine ⟨by simp, .inl ⟨_, _, rfl, run_takeDeferred HK.out, ?_⟩⟩
    exact ⟨_, results_tmp rfl _ _ _, rfl, (HI.out.keep (N' := N) (keep_put _ HND.out) (fun k h => .inl h)).up⟩
set_option maxRecDepth 100000 in
set_option maxHeartbeats 3200000 in
theorem funprotected_nil {w : World} :
    Calls Try.prog 80 #[.pointer none] w fun e w' => e = .returned (.int .i64 0) ∧ Up w w' := by
  refine (callsIn_wide (n := 9)).1 ?_
  refine callsIn_of_wp_marks Try.func80 rfl trivial ?_ rfl
  simp only [Try.ntmps80, List.size_toArray, List.length_cons, List.length_nil, Nat.reduceAdd, Nat.reduceSub, Array.replicate_succ, Array.replicate_zero, List.push_toArray, List.append_toArray, List.nil_append, List.cons_append]
  refine wpIn_wide.2 ?_
  go_wp2_with fail
  refine (fields_val _ _).mono ?_
  rintro e w3 ⟨b, rfl, hb, hz, hcb, hfb, hu3⟩
  simp at hb hz
  obtain ⟨k1, f1⟩ := hu3.at_ (w.heap.size + 1) (by (try simp) <;> omega)
  have c1 : w3.cell? ⟨w.heap.size + 1, 0, none⟩ = some (.int .i64 0) := (k1 0).trans (by simp [go_sem])
  have HU := Lib.hid (show Up w w3 by (repeat (first | with_reducible exact Up.refl _ | with_reducible refine Up.alloc ?_ _ | with_reducible refine Up.drew ?_ | with_reducible refine Up.drewN ?_ _ | with_reducible refine Up.setCell ?_ (by (try simp) <;> omega) _ | with_reducible assumption | with_reducible refine Up.trans ?_ (by assumption))))
  have HB : Hid (b ≠ w.heap.size + 1 ∧ b < w3.heap.size) := Lib.hid (by omega)
  have HC1 := Lib.hid c1
  have HCB := Lib.hid hcb
  clear k1 f1 hu3 hb hz c1 hcb
  go_wp2_with fail
  refine wpIn_wide.1 (range_n (n := 9) (gf := 129) (lb := #[.pointer (some ⟨b, 0, none⟩)]) rfl enters_fields (fields_nil (b := b)) (fun _ => rfl)
    (fun _ => False) (fun k hk => hk.elim) (fun k hk => hk.elim) (fun _ _ => trivial)
    (fun N pre W => InV w (w.heap.size + 1) (.int .i64 0) N W ∧ InV w b (.pointer none) N W) (fun c N xs W => False)
    (fun N N' s A A' h hk hn => ⟨h.1.keep hk hn, h.2.keep hk hn⟩) (fun _ _ _ _ _ _ h _ _ => h)
    (fun N pre W h => h.2.hb) ⟨⟨HU.out, HC1.out, fun h => h, fun k h => h.elim⟩, ⟨HU.out, HCB.out, fun h => h, fun k h => h.elim⟩⟩
    (fun _ _ _ _ _ => False) (fun _ _ _ _ _ _ _ _ h _ _ => h) (fun _ _ _ _ _ _ _ _ hG _ => hG.elim) (fun _ _ _ _ _ _ _ _ _ _ h => h.elim) ?done (fun _ _ _ _ _ _ _ _ h _ _ => h.elim))
  case done =>
    rintro Dd N xs W hD hND hN0 hS ⟨hI, hI2⟩ hK
    have h2 := hI.hb
    have zo := cell_lt h2
    have HI := Lib.hid hI
    have HK := Lib.hid hK
    have HND := Lib.hid hND
    clear hI hI2 hK hND
    go_wp2
    refine ⟨by simp, .inl ⟨_, _, rfl, run_takeDeferred HK.out, ?_⟩⟩
    exact ⟨_, results_tmp rfl _ _ _, rfl, (HI.out.keep (N' := N) (keep_put _ HND.out) (fun k h => .inl h)).up⟩
theorem fcollect_nil {b : Nat} {w : World} (hb : w.cell? ⟨b, 0, none⟩ = some (.pointer none)) :
    Calls Try.prog 55 #[.func (.func 132) #[] #[.pointer (some ⟨b, 0, none⟩)]] w fun e w' => ∃ A c, e = .returned (.slice A 0 c) ∧ Up w w' := by
  refine (collect_n [] enters_modified (by simp) (modified_nil (b := b)) (fun k h => h.elim) (fun _ _ => trivial) (fun W hk => ((hk.at_ b (cell_lt hb) (fun h => h)).1 0).trans hb) (fun _ _ _ h => h.elim) (fun _ h => h)).mono ?_
  rintro e w' ⟨A, c, rfl, h1, h2⟩
  exact ⟨A, c, rfl, h2.upto (fun i hi => hi.elim)⟩
end Go.Proofs.Ytjokcfenncogkaa
