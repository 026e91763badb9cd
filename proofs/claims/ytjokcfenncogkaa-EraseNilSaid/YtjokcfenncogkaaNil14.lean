/-
  EraseNil: of no space, nothing. No condition.
-/
import Derived.Test.YtjokcfenncogkaaAwk
namespace Go.Proofs.Ytjokcfenncogkaa
open Go.RowKit Go.Shelf
set_option linter.unusedVariables false
set_option linter.unusedSimpArgs false
attribute [local go_sem] Oper.semAt_some

theorem valid_zero13 : validB 0 0 = false := by decide
theorem up_of {f : Nat} {args : Array Value} {w : World} {x : Value} (h : Calls Try.prog f args w fun e w' => e = .returned x ∧ w = w') : Calls Try.prog f args w fun e w' => e = .returned x ∧ Up w w' := h.mono (by rintro e w' ⟨rfl, rfl⟩; exact ⟨rfl, Up.refl _⟩)
theorem fstart_nil {n : Int} {w : World} :
    Calls Try.prog 50 #[.pointer none, .int .i64 n] w fun e w' => e = .returned (.int .i64 (-1)) ∧ Up w w' := by
  go_enter Try.func50, Try.ntmps50
  go_wp2_with fail
  refine (up_of sform_nil).mono ?_
  rintro e w1 ⟨rfl, hb_w1⟩
  have hu_w1 : Up w w1 := by (repeat (first | with_reducible exact Up.refl _ | with_reducible refine Up.alloc ?_ _ | with_reducible refine Up.drew ?_ | with_reducible refine Up.drewN ?_ _ | with_reducible refine Up.setCell ?_ (by (try simp) <;> omega) _ | with_reducible assumption | with_reducible refine Up.trans ?_ (by assumption)))
  have hz_w1 := Up.size hb_w1
  try simp at hz_w1
  go_wp2_with fail
  go_ret
  exact ⟨rfl, by (repeat (first | with_reducible exact Up.refl _ | with_reducible refine Up.alloc ?_ _ | with_reducible refine Up.drew ?_ | with_reducible refine Up.drewN ?_ _ | with_reducible refine Up.setCell ?_ (by (try simp) <;> omega) _ | with_reducible assumption | with_reducible refine Up.trans ?_ (by assumption)))⟩
theorem fof_nil {n : Int} {w : World} :
    Calls Try.prog 49 #[.pointer none, .int .i64 n] w fun e w' => e = .returned (.tuple #[.agg #[.bool false, .bool false, .int .i64 0, .bool false], .bool false]) ∧ Up w w' := by
  go_enter Try.func49, Try.ntmps49
  go_wp2_with fail
  refine fstart_nil.mono ?_
  rintro e w1 ⟨rfl, hu1⟩
  have hb := hu1.at_ w.heap.size (by simp)
  have k0 := (hb.1 0).trans (by simp [go_sem] : _ = some (.bool false))
  have k1 := (hb.1 1).trans (by simp [go_sem] : _ = some (.bool false))
  have k2 := (hb.1 2).trans (by simp [go_sem] : _ = some (.int .i64 0))
  have k3 := (hb.1 3).trans (by simp [go_sem] : _ = some (.bool false))
  have zk : w.heap.size < w1.heap.size := by have := hu1.size; simp at this; omega
  go_wp2_with fail
  exact bodyPost_ret (v := .tuple #[.agg #[.bool false, .bool false, .int .i64 0, .bool false], .bool false]) (by simp [results, Try.results49, go_sem, k0, k1, k2, k3]) rfl ⟨rfl, by (repeat (first | with_reducible exact Up.refl _ | with_reducible refine Up.alloc ?_ _ | with_reducible refine Up.drew ?_ | with_reducible refine Up.drewN ?_ _ | with_reducible refine Up.setCell ?_ (by (try simp) <;> omega) _ | with_reducible assumption | with_reducible refine Up.trans ?_ (by assumption)))⟩
theorem fopen_nil {n : Int} {w : World} :
    Calls Try.prog 52 #[.pointer none, .int .i64 n] w fun e w' => e = .returned (.bool false) ∧ Up w w' := by
  go_enter Try.func52, Try.ntmps52
  go_wp2_with fail
  refine (fof_nil).mono ?_
  rintro e w1 ⟨rfl, hb_w1⟩
  have hu_w1 : Up w w1 := by (repeat (first | with_reducible exact Up.refl _ | with_reducible refine Up.alloc ?_ _ | with_reducible refine Up.drew ?_ | with_reducible refine Up.drewN ?_ _ | with_reducible refine Up.setCell ?_ (by (try simp) <;> omega) _ | with_reducible assumption | with_reducible refine Up.trans ?_ (by assumption)))
  have hz_w1 := Up.size hb_w1
  try simp at hz_w1
  go_wp2_with fail
  go_ret
  exact ⟨rfl, by (repeat (first | with_reducible exact Up.refl _ | with_reducible refine Up.alloc ?_ _ | with_reducible refine Up.drew ?_ | with_reducible refine Up.drewN ?_ _ | with_reducible refine Up.setCell ?_ (by (try simp) <;> omega) _ | with_reducible assumption | with_reducible refine Up.trans ?_ (by assumption)))⟩
theorem sat_none13 (n : Int) (w : World) : Calls Try.prog 27 #[.pointer none, .int .i64 n] w fun e w' => e = .returned (.agg #[.int .u8 0, .bool false, .int .u8 0, .int .u8 0, .int .u8 0, .int .u8 0]) ∧ Up w w' := sat_nil
set_option maxRecDepth 100000 in
set_option maxHeartbeats 3200000 in
theorem places_nil {b b2 : Nat} {a : Int} : ItN Try.prog 130 #[.pointer (some ⟨b, 0, none⟩), .pointer (some ⟨b2, 0, none⟩)] (fun x : Int => #[.int .i64 x]) (fun k => k = b2) (fun W => W.cell? ⟨b2, 0, none⟩ = some (.int .i64 a) ∧ W.frozen? ⟨b2, 0, none⟩ = false) (fun W => W.cell? ⟨b, 0, none⟩ = some (.pointer none)) (fun _ _ _ => False) (fun xs => xs = []) (fun _ => False) := by
  intro k l J Jx N0 W hJ hJx hV hT hNz hV0 hY h0
  refine callsIn_of_wp Try.func130 rfl trivial ?_ rfl
  simp only [Try.ntmps130, List.size_toArray, List.length_cons, List.length_nil, Nat.reduceAdd, Nat.reduceSub, Array.replicate_succ, Array.replicate_zero, List.push_toArray, List.append_toArray, List.nil_append, List.cons_append]
  have hb := hV _ _ _ h0
  obtain ⟨q1, q2⟩ := hV0
  have zb := cell_lt hb
  have zb2 := cell_lt q1
  simp only at zb zb2
  have hNb2 : N0 b2 := hT _ rfl
  have HJ := Lib.hid hJ
  have H0 := Lib.hid h0
  clear hY hJ hJx hV h0 hT hNz
  refine wpIn_wide.2 ?_
  go_wp2_with fail
  refine ssize_nil.mono ?_
  rintro e w1 ⟨rfl, hu1⟩
  have z1 := hu1.size
  have b1 := ((hu1.at_ b zb).1 0).trans hb
  have d1 := ((hu1.at_ b2 zb2).1 0).trans q1
  have f1 := ((hu1.at_ b2 zb2).2 0).trans q2
  have zb' : b < w1.heap.size := by omega
  have zb2' : b2 < w1.heap.size := by omega
  clear hb q1 q2
  go_wp2_with fail
  refine (wrap_bad _ _ _ _ valid_zero13).mono ?_
  rintro e w2 ⟨rfl, hu2⟩
  have z2 := hu2.size
  simp at z2
  have hbb := hu2.at_ b (by simp; omega)
  have hbd := hu2.at_ b2 (by simp; omega)
  have b3 := (hbb.1 0).trans (by simpa [go_sem, World.cell?_alloc_lt _ _ ⟨b, 0, none⟩ zb'] using b1 : _ = some (.pointer none))
  have d3 := (hbd.1 0).trans (by simpa [go_sem, World.cell?_alloc_lt _ _ ⟨b2, 0, none⟩ zb2'] using d1 : _ = some (.int .i64 a))
  have f3 := (hbd.2 0).trans ((((Up.refl w1).alloc _).at_ b2 zb2').2 0 |>.trans f1)
  have hne : b ≠ b2 := fun e => by subst e; rw [b3] at d3; cases d3
  have HJ2 := Lib.hid (show J N0 [] (w2.setCell ⟨b2, 0, none⟩ (.int .i64 0)) from HJ.out _ _ _ _ _ H0.out (((Keep.of_up (hu1.trans (((Up.refl w1).alloc _).trans hu2)))).setCell (.inl hNb2) _) (fun k hk => .inl hk))
  obtain ⟨W3, hW3⟩ : ∃ W3, w2.setCell ⟨b2, 0, none⟩ (.int .i64 0) = W3 := ⟨_, rfl⟩
  have b4 : W3.cell? ⟨b, 0, none⟩ = some (.pointer none) := by rw [← hW3]; exact (World.cell?_setCell_other _ _ _ _ (by simp <;> exact fun e => hne e.symm)).trans b3
  have d4 : W3.cell? ⟨b2, 0, none⟩ = some (.int .i64 0) := by rw [← hW3]; exact World.cell?_setCell_same (h := d3) ..
  rw [hW3] at HJ2
  clear hbb hbd hu1 hu2 b1 d1 f1
  go_wp2_with fail
  try simp only [hW3]
  try go_wp2_with fail
  refine (sat_none13 _ _).mono ?_
  rintro e w4 ⟨rfl, hu4⟩
  have fC := fldC1
  have HJ4 := Lib.hid (HJ.out.up HJ2.out hu4)
  clear hu4 b4 d4 b3 d3 f3 hW3
  go_wp2_with fail
  refine bodyPost_ret (results_none rfl _ _ _) rfl ?_
  exact ⟨⟨_, rfl⟩, .inl ⟨[], rfl, HJ4.out⟩⟩
/-- blocks from B on are new, and the box b holds v -/
structure InV (w : World) (b : Nat) (v : Value) (N : Nat → Prop) (W : World) : Prop where
  up : Up w W
  hb : W.cell? ⟨b, 0, none⟩ = some v
  nb : ¬ N b
  nw : ∀ k, N k → w.heap.size ≤ k
theorem InV.keep {w : World} {b : Nat} {v : Value} {N N' : Nat → Prop} {W W' : World} (h : InV w b v N W) (hk : Keep N W W') (hn : ∀ k, N' k → N k ∨ (W.heap.size ≤ k ∧ k < W'.heap.size)) : InV w b v N' W' := by
  obtain ⟨h1, h2, h3, h4⟩ := h
  have z := cell_lt h2
  refine ⟨h1.keep hk h4, ((hk.at_ b z h3).1 0).trans h2, fun h => ?_, fun k h => ?_⟩
  · rcases hn _ h with h | h
    · exact h3 h
    · have : b < W.heap.size := z; omega
  · rcases hn _ h with h | h
    · exact h4 k h
    · have := h1.size; omega
set_option maxRecDepth 100000 in
set_option maxHeartbeats 3200000 in
theorem ftext_nil {n : Int} {w : World} :
    Calls Try.prog 78 #[.pointer none, .int .i64 n] w fun e w' => e = .returned (.slice none 0 0) ∧ Up w w' := by
  refine (callsIn_wide (n := 9)).1 ?_
  refine callsIn_of_wp_marks Try.func78 rfl trivial ?_ rfl
  simp only [Try.ntmps78, List.size_toArray, List.length_cons, List.length_nil, Nat.reduceAdd, Nat.reduceSub, Array.replicate_succ, Array.replicate_zero, List.push_toArray, List.append_toArray, List.nil_append, List.cons_append]
  refine wpIn_wide.2 ?_
  go_wp2_with fail
  refine (places_val _ _ _).mono ?_
  rintro e w3 ⟨b, b2, rfl, hb, hb2, hz, hcb, hcb2, hfb2, hu3⟩
  simp at hb hz hb2
  obtain ⟨k1, f1⟩ := hu3.at_ (w.heap.size + 1) (by (try simp) <;> omega)
  have c1 : w3.cell? ⟨w.heap.size + 1, 0, none⟩ = some (.slice none 0 0) := (k1 0).trans (by simp [go_sem])
  have HU := Lib.hid (show Up w w3 by (repeat (first | with_reducible exact Up.refl _ | with_reducible refine Up.alloc ?_ _ | with_reducible refine Up.drew ?_ | with_reducible refine Up.drewN ?_ _ | with_reducible refine Up.setCell ?_ (by (try simp) <;> omega) _ | with_reducible assumption | with_reducible refine Up.trans ?_ (by assumption))))
  have HB : Hid (b ≠ w.heap.size + 1 ∧ b ≠ b2 ∧ w.heap.size + 1 ≠ b2 ∧ b < w3.heap.size ∧ b2 < w3.heap.size ∧ w.heap.size ≤ b2) := Lib.hid (by omega)
  have HC1 := Lib.hid c1
  have HCB := Lib.hid hcb
  clear k1 f1 hu3 hb hz c1 hcb hb2
  go_wp2_with fail
  refine wpIn_wide.1 (range_n (n := 9) (gf := 130) (lb := #[.pointer (some ⟨b, 0, none⟩), .pointer (some ⟨b2, 0, none⟩)]) rfl enters_places (places_nil (b := b) (b2 := b2) (a := n)) (fun _ => rfl)
    (fun k => k = b2) (fun k hk => by have := HB.out; omega) (fun k hk => hk) (fun W hu => ⟨((hu.at_ b2 HB.out.2.2.2.2.1).1 0).trans hcb2, ((hu.at_ b2 HB.out.2.2.2.2.1).2 0).trans hfb2⟩)
    (fun N pre W => InV w (w.heap.size + 1) (.slice none 0 0) N W ∧ InV w b (.pointer none) N W) (fun c N xs W => False)
    (fun N N' s A A' h hk hn => ⟨h.1.keep hk hn, h.2.keep hk hn⟩) (fun _ _ _ _ _ _ h _ _ => h)
    (fun N pre W h => h.2.hb) ⟨⟨HU.out, HC1.out, fun h => by have := HB.out; omega, fun k h => by have := HB.out; omega⟩, ⟨HU.out, HCB.out, fun h => by have := HB.out; omega, fun k h => by have := HB.out; omega⟩⟩
    (fun _ _ _ _ _ => False) (fun _ _ _ _ _ _ _ _ h _ _ => h) (fun _ _ _ _ _ _ _ _ hG _ => hG.elim) (fun _ _ _ _ _ _ _ _ _ _ h => h.elim) ?done (fun _ _ _ _ _ _ _ _ h _ _ => h.elim))
  case done =>
    rintro Dd N xs W hD hND hN0 hS ⟨hI, hI2⟩ hK
    have h2 := hI.hb
    have zo := cell_lt h2
    have HI := Lib.hid hI
    have HK := Lib.hid hK
    have HND := Lib.hid hND
    clear hI hI2 hK hND
    go_wp2
    refine ⟨by simp, .inl ⟨_, _, rfl, run_takeDeferred HK.out, ?_⟩⟩
    exact ⟨_, results_tmp rfl _ _ _, rfl, (HI.out.keep (N' := N) (keep_put _ HND.out) (fun k h => .inl h)).up⟩
theorem SeeSp.up {r c f t : Int} {b1 b2 b3 : Nat} {w W : World} (h : SeeSp r c f t b1 b2 b3 w) (hu : Up w W) : SeeSp r c f t b1 b2 b3 W :=
  ⟨((hu.at_ _ (cell_lt h.1)).1 _).trans h.1, ((hu.at_ _ (cell_lt h.2.1)).1 _).trans h.2.1, ((hu.at_ _ (cell_lt h.2.2.1)).1 _).trans h.2.2.1, ((hu.at_ _ (cell_lt h.2.2.2)).1 _).trans h.2.2.2⟩
theorem span0_it {f t : Int} {b1 b2 b3 : Nat} : ItN Try.prog 166 #[.pointer (some ⟨b1, 0, none⟩), .pointer (some ⟨b2, 0, none⟩), .pointer (some ⟨b3, 0, none⟩)] (fun x : Int => #[.int .i64 x]) (fun _ => False) (fun _ => True) (SeeSp 0 0 f t b1 b2 b3) (fun pre x _ => pre ++ [x] <+: placesN 0 1 0) (fun xs => xs = placesN 0 1 0) (fun pre => pre <+: placesN 0 1 0) :=
  span_n (r := 0) (c := 0) (f := f) (t := t) (m := 1) (a := 0) (n := 0) (b1 := b1) (b2 := b2) (b3 := b3) (by omega) (by omega) (by omega) (fun W => length_bad 0 0 f t W valid_zero13) (fun h => absurd h (by omega)) (fun h => absurd h (by omega))
theorem cend_nil {n : Int} {w : World} : Calls Try.prog 101 #[.pointer none, .int .i64 n] w fun e w' => e = .returned (.bool false) ∧ Up w w' := by
  go_enter Try.func101, Try.ntmps101
  go_wp2_with fail
  refine (fopen_nil).mono ?_
  rintro e w1 ⟨rfl, hb_w1⟩
  have hu_w1 : Up w w1 := by (repeat (first | with_reducible exact Up.refl _ | with_reducible refine Up.alloc ?_ _ | with_reducible refine Up.drew ?_ | with_reducible refine Up.drewN ?_ _ | with_reducible refine Up.setCell ?_ (by (try simp) <;> omega) _ | with_reducible assumption | with_reducible refine Up.trans ?_ (by assumption)))
  have hz_w1 := Up.size hb_w1
  try simp at hz_w1
  go_wp2_with fail
  go_ret
  exact ⟨rfl, by (repeat (first | with_reducible exact Up.refl _ | with_reducible refine Up.alloc ?_ _ | with_reducible refine Up.drew ?_ | with_reducible refine Up.drewN ?_ _ | with_reducible refine Up.setCell ?_ (by (try simp) <;> omega) _ | with_reducible assumption | with_reducible refine Up.trans ?_ (by assumption)))⟩
theorem cdel_nil {n : Int} {w : World} : Calls Try.prog 99 #[.pointer none, .int .i64 n] w fun e w' => e = .returned (.bool false) ∧ Up w w' := by
  go_enter Try.func99, Try.ntmps99
  go_wp2_with fail
  refine (fopen_nil).mono ?_
  rintro e w1 ⟨rfl, hb_w1⟩
  have hu_w1 : Up w w1 := by (repeat (first | with_reducible exact Up.refl _ | with_reducible refine Up.alloc ?_ _ | with_reducible refine Up.drew ?_ | with_reducible refine Up.drewN ?_ _ | with_reducible refine Up.setCell ?_ (by (try simp) <;> omega) _ | with_reducible assumption | with_reducible refine Up.trans ?_ (by assumption)))
  have hz_w1 := Up.size hb_w1
  try simp at hz_w1
  go_wp2_with fail
  go_ret
  exact ⟨rfl, by (repeat (first | with_reducible exact Up.refl _ | with_reducible refine Up.alloc ?_ _ | with_reducible refine Up.drew ?_ | with_reducible refine Up.drewN ?_ _ | with_reducible refine Up.setCell ?_ (by (try simp) <;> omega) _ | with_reducible assumption | with_reducible refine Up.trans ?_ (by assumption)))⟩
theorem cins_nil {n x : Int} {w : World} : Calls Try.prog 98 #[.pointer none, .int .i64 n, .int .u8 x] w fun e w' => e = .returned (.bool false) ∧ Up w w' := by
  go_enter Try.func98, Try.ntmps98
  go_wp2_with fail
  refine (fopen_nil).mono ?_
  rintro e w1 ⟨rfl, hb_w1⟩
  have hu_w1 : Up w w1 := by (repeat (first | with_reducible exact Up.refl _ | with_reducible refine Up.alloc ?_ _ | with_reducible refine Up.drew ?_ | with_reducible refine Up.drewN ?_ _ | with_reducible refine Up.setCell ?_ (by (try simp) <;> omega) _ | with_reducible assumption | with_reducible refine Up.trans ?_ (by assumption)))
  have hz_w1 := Up.size hb_w1
  try simp at hz_w1
  go_wp2_with fail
  go_ret
  exact ⟨rfl, by (repeat (first | with_reducible exact Up.refl _ | with_reducible refine Up.alloc ?_ _ | with_reducible refine Up.drew ?_ | with_reducible refine Up.drewN ?_ _ | with_reducible refine Up.setCell ?_ (by (try simp) <;> omega) _ | with_reducible assumption | with_reducible refine Up.trans ?_ (by assumption)))⟩
theorem cnulls_nil {n : Int} {w : World} : Calls Try.prog 100 #[.pointer none, .int .i64 n] w fun e w' => e = .returned (.int .i64 0) ∧ Up w w' := by
  go_enter Try.func100, Try.ntmps100
  go_wp2_with fail
  refine (ftext_nil).mono ?_
  rintro e w1 ⟨rfl, hb_w1⟩
  have hu_w1 : Up w w1 := by (repeat (first | with_reducible exact Up.refl _ | with_reducible refine Up.alloc ?_ _ | with_reducible refine Up.drew ?_ | with_reducible refine Up.drewN ?_ _ | with_reducible refine Up.setCell ?_ (by (try simp) <;> omega) _ | with_reducible assumption | with_reducible refine Up.trans ?_ (by assumption)))
  have hz_w1 := Up.size hb_w1
  try simp at hz_w1
  go_wp2_with fail
  go_loopw [5, 12] (fun v i wr => v = .int .i64 0 ∧ i = .int .i64 0 ∧ Up w1 wr) (fun _ _ _ => 0)
  case atStart => exact ⟨rfl, rfl, Up.refl _⟩
  case round =>
    obtain ⟨rfl, rfl, hu⟩ := hrel
    have HU := Lib.hid hu
    clear hu
    go_wp2_with fail
    go_ret
    exact ⟨rfl, hu_w1.trans HU.out⟩
theorem call_nil {w : World} : Calls Try.prog 150 #[.pointer none] w fun e w' => e = .returned (.tuple #[]) ∧ Up w w' := by
  go_enter Try.func150, Try.ntmps150
  go_wp2_with fail
  refine (ssize_nil).mono ?_
  rintro e w1 ⟨rfl, hb_w1⟩
  have hu_w1 : Up w w1 := by (repeat (first | with_reducible exact Up.refl _ | with_reducible refine Up.alloc ?_ _ | with_reducible refine Up.drew ?_ | with_reducible refine Up.drewN ?_ _ | with_reducible refine Up.setCell ?_ (by (try simp) <;> omega) _ | with_reducible assumption | with_reducible refine Up.trans ?_ (by assumption)))
  have hz_w1 := Up.size hb_w1
  try simp at hz_w1
  go_wp2_with fail
  refine (cells_bad _ _ _ valid_zero13).mono ?_
  rintro e w2 ⟨rfl, hb_w2⟩
  have hu_w2 : Up w1 w2 := by (repeat (first | with_reducible exact Up.refl _ | with_reducible refine Up.alloc ?_ _ | with_reducible refine Up.drew ?_ | with_reducible refine Up.drewN ?_ _ | with_reducible refine Up.setCell ?_ (by (try simp) <;> omega) _ | with_reducible assumption | with_reducible refine Up.trans ?_ (by assumption)))
  have hz_w2 := Up.size hb_w2
  try simp at hz_w2
  go_wp2_with fail
  go_loopw [6] (fun i wr => i = .int .i64 0 ∧ Up w2 wr) (fun _ _ => 0)
  case atStart => exact ⟨rfl, Up.refl _⟩
  case round =>
    obtain ⟨rfl, hu⟩ := hrel
    have HU := Lib.hid hu
    clear hu
    go_wp2_with fail
    go_end0
    exact ⟨rfl, hu_w1.trans (hu_w2.trans HU.out)⟩
theorem cunprot_nil {w : World} : Calls Try.prog 106 #[.pointer none] w fun e w' => e = .returned (.tuple #[]) ∧ Up w w' := by
  refine (callsIn_wide (n := 9)).1 ?_
  refine callsIn_of_wp_marks Try.func106 rfl trivial ?_ rfl
  simp only [Try.ntmps106, List.size_toArray, List.length_cons, List.length_nil, Nat.reduceAdd, Nat.reduceSub, Array.replicate_succ, Array.replicate_zero, List.push_toArray, List.append_toArray, List.nil_append, List.cons_append]
  refine wpIn_wide.2 ?_
  go_wp2_with fail
  refine (up_of sform_nil).mono ?_
  rintro e w1 ⟨rfl, hb_w1⟩
  have hu_w1 : Up w w1 := by (repeat (first | with_reducible exact Up.refl _ | with_reducible refine Up.alloc ?_ _ | with_reducible refine Up.drew ?_ | with_reducible refine Up.drewN ?_ _ | with_reducible refine Up.setCell ?_ (by (try simp) <;> omega) _ | with_reducible assumption | with_reducible refine Up.trans ?_ (by assumption)))
  have hz_w1 := Up.size hb_w1
  try simp at hz_w1
  obtain ⟨bd_w1_0, be_w1_0⟩ := hb_w1.at_ (w.heap.size) (by (try simp) <;> omega)
  have zb_w1_0 : w.heap.size < w1.heap.size := by omega
  go_wp2_with fail
  refine (call_nil).mono ?_
  rintro e w2 ⟨rfl, hb_w2⟩
  have hu_w2 : Up w1 w2 := by (repeat (first | with_reducible exact Up.refl _ | with_reducible refine Up.alloc ?_ _ | with_reducible refine Up.drew ?_ | with_reducible refine Up.drewN ?_ _ | with_reducible refine Up.setCell ?_ (by (try simp) <;> omega) _ | with_reducible assumption | with_reducible refine Up.trans ?_ (by assumption)))
  have hz_w2 := Up.size hb_w2
  try simp at hz_w2
  obtain ⟨bc_w2_0, bf_w2_0⟩ := hu_w2.at_ (w.heap.size) (by omega)
  have zb_w2_0 : w.heap.size < w2.heap.size := by omega
  go_wp2_with fail
  refine (up_of splace_nil).mono ?_
  rintro e w3 ⟨rfl, hb_w3⟩
  have hu_w3 : Up w2 w3 := by (repeat (first | with_reducible exact Up.refl _ | with_reducible refine Up.alloc ?_ _ | with_reducible refine Up.drew ?_ | with_reducible refine Up.drewN ?_ _ | with_reducible refine Up.setCell ?_ (by (try simp) <;> omega) _ | with_reducible assumption | with_reducible refine Up.trans ?_ (by assumption)))
  have hz_w3 := Up.size hb_w3
  try simp at hz_w3
  obtain ⟨bc_w3_0, bf_w3_0⟩ := hu_w3.at_ (w.heap.size) (by omega)
  have zb_w3_0 : w.heap.size < w3.heap.size := by omega
  go_wp2_with fail
  exact ⟨_, results_none rfl _ _ _, rfl, by (repeat (first | with_reducible exact Up.refl _ | with_reducible refine Up.alloc ?_ _ | with_reducible refine Up.drew ?_ | with_reducible refine Up.drewN ?_ _ | with_reducible refine Up.setCell ?_ (by (try simp) <;> omega) _ | with_reducible assumption | with_reducible refine Up.trans ?_ (by assumption)))⟩
theorem crange_nil {a b : Int} {w : World} : Calls Try.prog 107 #[.pointer none, .int .i64 a, .int .i64 b] w fun e w' => e = .returned (.tuple #[]) ∧ Up w w' := by
  refine (callsIn_wide (n := 9)).1 ?_
  refine callsIn_of_wp_marks Try.func107 rfl trivial ?_ rfl
  simp only [Try.ntmps107, List.size_toArray, List.length_cons, List.length_nil, Nat.reduceAdd, Nat.reduceSub, Array.replicate_succ, Array.replicate_zero, List.push_toArray, List.append_toArray, List.nil_append, List.cons_append]
  refine wpIn_wide.2 ?_
  go_wp2_with fail
  refine (ssize_nil).mono ?_
  rintro e w1 ⟨rfl, hb_w1⟩
  have hu_w1 : Up w w1 := by (repeat (first | with_reducible exact Up.refl _ | with_reducible refine Up.alloc ?_ _ | with_reducible refine Up.drew ?_ | with_reducible refine Up.drewN ?_ _ | with_reducible refine Up.setCell ?_ (by (try simp) <;> omega) _ | with_reducible assumption | with_reducible refine Up.trans ?_ (by assumption)))
  have hz_w1 := Up.size hb_w1
  try simp at hz_w1
  obtain ⟨bd_w1_0, be_w1_0⟩ := hb_w1.at_ (w.heap.size) (by (try simp) <;> omega)
  have zb_w1_0 : w.heap.size < w1.heap.size := by omega
  go_wp2_with fail
  refine (spann_val _ _ _ _ _).mono ?_
  rintro e w3 ⟨b1, b2, b3, rfl, hbb, hsee, hu3⟩
  have HU := Lib.hid (hu_w1.trans hu3)
  have HSE := Lib.hid hsee
  clear hu3 hsee hbb
  go_wp2_with fail
  refine wpIn_wide.1 (range_n (n := 9) (gf := 166) (lb := #[.pointer (some ⟨b1, 0, none⟩), .pointer (some ⟨b2, 0, none⟩), .pointer (some ⟨b3, 0, none⟩)]) rfl enters_span (span0_it (f := a) (t := b)) (fun _ => rfl)
    (fun _ => False) (fun k hk => hk.elim) (fun k hk => hk.elim) (fun _ _ => trivial)
    (fun N pre W => Up w3 W ∧ ∀ k, N k → w3.heap.size ≤ k) (fun c N xs W => False)
    (fun N N' s A A' h hk hn => ⟨h.1.keep hk h.2, fun k hk' => by rcases hn k hk' with h1 | h1; exact h.2 k h1; have := h.1.size; omega⟩) (fun _ _ _ _ _ _ h _ _ => h)
    (fun N pre W h => SeeSp.up HSE.out h.1) ⟨Up.refl _, fun k h => h.elim⟩
    (fun _ _ _ _ _ => False) (fun _ _ _ _ _ _ _ _ h _ _ => h) (fun _ _ _ _ _ _ _ _ hG _ => (by simp [placesN] at hG)) (fun _ _ _ _ _ _ _ _ _ _ h => h.elim) ?done (fun _ _ _ _ _ _ _ _ _ h _ => h.elim))
  case done =>
    rintro Dd N xs W hD hND hN0 hS ⟨hI, hN⟩ hK
    have HI := Lib.hid hI
    have HK := Lib.hid hK
    have HN := Lib.hid (hN _ hND)
    clear hI hK hN hND
    go_wp2
    refine ⟨by simp, .inl ⟨_, _, rfl, run_takeDeferred HK.out, ?_⟩⟩
    exact ⟨_, results_none rfl _ _ _, rfl, HU.out.trans (HI.out.keep (keep_put (N := fun k => k = Dd) _ rfl) (fun i hi => by subst hi; exact HN.out))⟩
theorem crepeat_nil {a b : Int} (c0 c2 c3 c4 c5 : Int) (c1 : Bool) {w : World} : Calls Try.prog 108 #[.pointer none, .int .i64 a, .int .i64 b, .agg #[.int .u8 c0, .bool c1, .int .u8 c2, .int .u8 c3, .int .u8 c4, .int .u8 c5]] w fun e w' => e = .returned (.int .i64 0) ∧ Up w w' := by
  refine (callsIn_wide (n := 9)).1 ?_
  refine callsIn_of_wp_marks Try.func108 rfl trivial ?_ rfl
  simp only [Try.ntmps108, List.size_toArray, List.length_cons, List.length_nil, Nat.reduceAdd, Nat.reduceSub, Array.replicate_succ, Array.replicate_zero, List.push_toArray, List.append_toArray, List.nil_append, List.cons_append]
  refine wpIn_wide.2 ?_
  go_wp2_with fail
  refine (ssize_nil).mono ?_
  rintro e w1 ⟨rfl, hb_w1⟩
  have hu_w1 : Up w w1 := by (repeat (first | with_reducible exact Up.refl _ | with_reducible refine Up.alloc ?_ _ | with_reducible refine Up.drew ?_ | with_reducible refine Up.drewN ?_ _ | with_reducible refine Up.setCell ?_ (by (try simp) <;> omega) _ | with_reducible assumption | with_reducible refine Up.trans ?_ (by assumption)))
  have hz_w1 := Up.size hb_w1
  try simp at hz_w1
  obtain ⟨bd_w1_0, be_w1_0⟩ := hb_w1.at_ (w.heap.size) (by (try simp) <;> omega)
  obtain ⟨bd_w1_1, be_w1_1⟩ := hb_w1.at_ (w.heap.size + 1) (by (try simp) <;> omega)
  obtain ⟨bd_w1_2, be_w1_2⟩ := hb_w1.at_ (w.heap.size + 1 + 1) (by (try simp) <;> omega)
  have zb_w1_0 : w.heap.size < w1.heap.size := by omega
  have zb_w1_1 : w.heap.size + 1 < w1.heap.size := by omega
  have zb_w1_2 : w.heap.size + 1 + 1 < w1.heap.size := by omega
  go_wp2_with fail
  refine (spann_val _ _ _ _ _).mono ?_
  rintro e w3 ⟨b1, b2, b3, rfl, hbb, hsee, hu3⟩
  have HU := Lib.hid (hu_w1.trans hu3)
  have HSE := Lib.hid hsee
  have c9 : w3.cell? ⟨w.heap.size + 1 + 1, 0, none⟩ = some (.int .i64 0) := ((hu3.at_ _ zb_w1_2).1 0).trans ((bd_w1_2 0).trans (by simp [go_sem]))
  have HC9 := Lib.hid c9
  clear hu3 hsee hbb c9
  go_wp2_with fail
  refine wpIn_wide.1 (range_n (n := 9) (gf := 166) (lb := #[.pointer (some ⟨b1, 0, none⟩), .pointer (some ⟨b2, 0, none⟩), .pointer (some ⟨b3, 0, none⟩)]) rfl enters_span (span0_it (f := a) (t := b)) (fun _ => rfl)
    (fun _ => False) (fun k hk => hk.elim) (fun k hk => hk.elim) (fun _ _ => trivial)
    (fun N pre W => Up w3 W ∧ ∀ k, N k → w3.heap.size ≤ k) (fun c N xs W => False)
    (fun N N' s A A' h hk hn => ⟨h.1.keep hk h.2, fun k hk' => by rcases hn k hk' with h1 | h1; exact h.2 k h1; have := h.1.size; omega⟩) (fun _ _ _ _ _ _ h _ _ => h)
    (fun N pre W h => SeeSp.up HSE.out h.1) ⟨Up.refl _, fun k h => h.elim⟩
    (fun _ _ _ _ _ => False) (fun _ _ _ _ _ _ _ _ h _ _ => h) (fun _ _ _ _ _ _ _ _ hG _ => (by simp [placesN] at hG)) (fun _ _ _ _ _ _ _ _ _ _ h => h.elim) ?done (fun _ _ _ _ _ _ _ _ _ h _ => h.elim))
  case done =>
    rintro Dd N xs W hD hND hN0 hS ⟨hI, hN⟩ hK
    have h2 := ((hI.at_ _ (cell_lt HC9.out)).1 0).trans HC9.out
    have zo := cell_lt h2
    have HI := Lib.hid hI
    have HK := Lib.hid hK
    have HN := Lib.hid (hN _ hND)
    clear hI hK hN hND
    go_wp2
    refine ⟨by simp, .inl ⟨_, _, rfl, run_takeDeferred HK.out, ?_⟩⟩
    exact ⟨_, results_tmp rfl _ _ _, rfl, HU.out.trans (HI.out.keep (keep_put (N := fun k => k = Dd) _ rfl) (fun i hi => by subst hi; exact HN.out))⟩
set_option maxHeartbeats 3200000 in
theorem row_none {b b2 : Nat} {n : Int} : ItN Try.prog 138 #[.pointer (some ⟨b, 0, none⟩), .pointer (some ⟨b2, 0, none⟩)] (fun x : Int => #[.int .i64 x]) (fun _ => False) (fun _ => True) (fun W => W.cell? ⟨b, 0, none⟩ = some (.pointer none) ∧ W.cell? ⟨b2, 0, none⟩ = some (.int .i64 n)) (fun _ _ _ => False) (fun xs => xs = []) (fun _ => False) := by
  intro k l J Jx N0 W hJ hJx hV hT hNz hV0 hY h0
  refine callsIn_of_wp Try.func138 rfl trivial ?_ rfl
  simp only [Try.ntmps138, List.size_toArray, List.length_cons, List.length_nil, Nat.reduceAdd, Nat.reduceSub, Array.replicate_succ, Array.replicate_zero, List.push_toArray, List.append_toArray, List.nil_append, List.cons_append]
  obtain ⟨hb, hb2⟩ := hV _ _ _ h0
  have zb := cell_lt hb
  have zb2 := cell_lt hb2
  simp only at zb zb2
  have HJ := Lib.hid hJ
  have H0 := Lib.hid h0
  clear hY hJ hJx hV h0 hT hV0 hNz
  refine wpIn_wide.2 ?_
  go_wp2_with fail
  refine ssize_nil.mono ?_
  rintro e w1 ⟨rfl, hu1⟩
  have d1 := ((hu1.at_ b2 zb2).1 0).trans hb2
  have zb2' : b2 < w1.heap.size := by have := hu1.size; omega
  have HU1 := Lib.hid hu1
  clear hb hb2 hu1
  go_wp2_with fail
  refine (wrap_bad _ _ _ _ valid_zero13).mono ?_
  rintro e w2 ⟨rfl, hu2⟩
  have hbx := hu2.at_ w1.heap.size (by simp)
  have k0x := (hbx.1 0).trans (by simp [go_sem] : _ = some (.int .i64 0))
  have k1x := (hbx.1 1).trans (by simp [go_sem] : _ = some (.int .i64 0))
  have z2 : w1.heap.size < w2.heap.size := by have := hu2.size; simp at this; omega
  have HU2 := Lib.hid (HU1.out.trans (((Up.refl w1).alloc (.cells #[.int .i64 0, .int .i64 0] 38)).trans hu2))
  clear hbx hu2 d1
  go_wp2_with fail
  refine wp_region_mix (NS := []) [] rfl (by kernel_rfl) (by kernel_rfl) (by simp) (by simp) ?_
  repeat (first
    | (refine mix_skip rfl rfl ?_; simp only [Act.put, List.setIfInBounds_toArray, List.set_cons_succ, List.set_cons_zero])
    | (refine mix_q rfl rfl rfl (by kernel_rfl) rfl rfl rfl ?_
       apply Exists.intro
       refine ⟨fun Wm => ?_, ?_⟩
       · simp only [fin]
         skip
         intro K hK
         go_wp2_with ((go_at_call 139; (with_reducible refine (col_bad _ _ _ _ valid_zero13).mono ?_); rintro e w' ⟨rfl, hux⟩))
         refine hK _ _ ?_ ?_ ?_
         · (repeat (first | with_reducible exact Up.refl _ | with_reducible refine Up.alloc ?_ _ | with_reducible refine Up.drew ?_ | with_reducible refine Up.drewN ?_ _ | with_reducible refine Up.setCell ?_ (by (try simp) <;> omega) _ | with_reducible assumption | with_reducible refine Up.trans ?_ (by assumption)))
         · rfl
         · exact tmps_at rfl
       simp only [Act.put, List.setIfInBounds_toArray, List.set_cons_succ, List.set_cons_zero]))
  refine mix_nil ?_
  intro w3 hb_w3
  simp only [fin]
  have hu_w3 : Up w2 w3 := by (repeat (first | with_reducible exact Up.refl _ | with_reducible refine Up.alloc ?_ _ | with_reducible refine Up.drew ?_ | with_reducible refine Up.drewN ?_ _ | with_reducible refine Up.setCell ?_ (by (try simp) <;> omega) _ | with_reducible assumption | with_reducible refine Up.trans ?_ (by assumption)))
  have hz_w3 := Up.size hb_w3
  try simp at hz_w3
  obtain ⟨bc_w3_0, bf_w3_0⟩ := hu_w3.at_ (w1.heap.size) (by omega)
  have zb_w3_0 : w1.heap.size < w3.heap.size := by omega
  go_wp2_with fail
  have HJ3 := Lib.hid (HJ.out.up H0.out (HU2.out.trans hb_w3))
  refine (wpIn_wide (n := k)).1 ?_
  gi_loopw [6, 18] (fun _ i wr => i = .int .i64 0 ∧ J N0 [] wr) (fun _ _ _ => 0)
  case atStart => exact ⟨rfl, HJ3.out⟩
  case round =>
    obtain ⟨rfl, hJs⟩ := hrel
    have HJS := Lib.hid hJs
    clear hJs
    gi_wp2
    go_end0
    exact ⟨⟨_, rfl⟩, .inl ⟨_, rfl, HJS.out⟩⟩
theorem rcollect_nil {b b2 : Nat} {n : Int} {w : World} (hb : w.cell? ⟨b, 0, none⟩ = some (.pointer none)) (hb2 : w.cell? ⟨b2, 0, none⟩ = some (.int .i64 n)) :
    Calls Try.prog 55 #[.func (.func 138) #[] #[.pointer (some ⟨b, 0, none⟩), .pointer (some ⟨b2, 0, none⟩)]] w fun e w' => ∃ A c, e = .returned (.slice A 0 c) ∧ Up w w' := by
  refine (collect_n [] enters_row (by simp) (row_none (b := b) (b2 := b2) (n := n)) (fun k h => h.elim) (fun _ _ => trivial) (fun W hk => ⟨((hk.at_ b (cell_lt hb) (fun h => h)).1 0).trans hb, ((hk.at_ b2 (cell_lt hb2) (fun h => h)).1 0).trans hb2⟩) (fun _ _ _ h => h.elim) (fun _ h => h)).mono ?_
  rintro e w' ⟨A, c, rfl, h1, h2⟩
  exact ⟨A, c, rfl, h2.upto (fun i hi => hi.elim)⟩
set_option maxRecDepth 100000 in
set_option maxHeartbeats 6400000 in
theorem law_nil14 (n to : Int) (C : Cl) (w : World) (n0 : -9223372036854775808 ≤ n) (n1 : n ≤ 9223372036854775807) (t0 : -9223372036854775808 ≤ to) (t1 : to ≤ 9223372036854775807) (hC : C.Wf) :
    Calls Try.prog 19 #[.int .i64 n, .int .i64 to, C.val] w fun e w' => e = .returned (.bool true) ∧ Up w w' := by
  obtain ⟨c0, c1, c2, c3, c4, c5⟩ := C
  unfold Cl.val
  clear hC
  go_enter Try.func19, Try.ntmps19
  go_wp2_with fail
  refine (awake14 _).mono ?_
  rintro e w1 ⟨rfl, hb_w1⟩
  have hu_w1 : Up w w1 := by (repeat (first | with_reducible exact Up.refl _ | with_reducible refine Up.alloc ?_ _ | with_reducible refine Up.drew ?_ | with_reducible refine Up.drewN ?_ _ | with_reducible refine Up.setCell ?_ (by (try simp) <;> omega) _ | with_reducible assumption | with_reducible refine Up.trans ?_ (by assumption)))
  have hz_w1 := Up.size hb_w1
  try simp at hz_w1
  obtain ⟨bd_w1_0, be_w1_0⟩ := hb_w1.at_ (w.heap.size) (by (try simp) <;> omega)
  have zb_w1_0 : w.heap.size < w1.heap.size := by omega
  go_wp2_with fail
  refine (cunprot_nil).mono ?_
  rintro e w2 ⟨rfl, hb_w2⟩
  have hu_w2 : Up w1 w2 := by (repeat (first | with_reducible exact Up.refl _ | with_reducible refine Up.alloc ?_ _ | with_reducible refine Up.drew ?_ | with_reducible refine Up.drewN ?_ _ | with_reducible refine Up.setCell ?_ (by (try simp) <;> omega) _ | with_reducible assumption | with_reducible refine Up.trans ?_ (by assumption)))
  have hz_w2 := Up.size hb_w2
  try simp at hz_w2
  obtain ⟨bc_w2_0, bf_w2_0⟩ := hu_w2.at_ (w.heap.size) (by omega)
  have zb_w2_0 : w.heap.size < w2.heap.size := by omega
  go_wp2_with fail
  refine (crange_nil).mono ?_
  rintro e w3 ⟨rfl, hb_w3⟩
  have hu_w3 : Up w2 w3 := by (repeat (first | with_reducible exact Up.refl _ | with_reducible refine Up.alloc ?_ _ | with_reducible refine Up.drew ?_ | with_reducible refine Up.drewN ?_ _ | with_reducible refine Up.setCell ?_ (by (try simp) <;> omega) _ | with_reducible assumption | with_reducible refine Up.trans ?_ (by assumption)))
  have hz_w3 := Up.size hb_w3
  try simp at hz_w3
  obtain ⟨bc_w3_0, bf_w3_0⟩ := hu_w3.at_ (w.heap.size) (by omega)
  have zb_w3_0 : w.heap.size < w3.heap.size := by omega
  go_wp2_with fail
  refine (crepeat_nil _ _ _ _ _ _).mono ?_
  rintro e w4 ⟨rfl, hb_w4⟩
  have hu_w4 : Up w3 w4 := by (repeat (first | with_reducible exact Up.refl _ | with_reducible refine Up.alloc ?_ _ | with_reducible refine Up.drew ?_ | with_reducible refine Up.drewN ?_ _ | with_reducible refine Up.setCell ?_ (by (try simp) <;> omega) _ | with_reducible assumption | with_reducible refine Up.trans ?_ (by assumption)))
  have hz_w4 := Up.size hb_w4
  try simp at hz_w4
  obtain ⟨bc_w4_0, bf_w4_0⟩ := hu_w4.at_ (w.heap.size) (by omega)
  have zb_w4_0 : w.heap.size < w4.heap.size := by omega
  go_wp2_with fail
  refine (cend_nil).mono ?_
  rintro e w5 ⟨rfl, hb_w5⟩
  have hu_w5 : Up w4 w5 := by (repeat (first | with_reducible exact Up.refl _ | with_reducible refine Up.alloc ?_ _ | with_reducible refine Up.drew ?_ | with_reducible refine Up.drewN ?_ _ | with_reducible refine Up.setCell ?_ (by (try simp) <;> omega) _ | with_reducible assumption | with_reducible refine Up.trans ?_ (by assumption)))
  have hz_w5 := Up.size hb_w5
  try simp at hz_w5
  obtain ⟨bc_w5_0, bf_w5_0⟩ := hu_w5.at_ (w.heap.size) (by omega)
  have zb_w5_0 : w.heap.size < w5.heap.size := by omega
  go_wp2_with fail
  refine (cdel_nil).mono ?_
  rintro e w6 ⟨rfl, hb_w6⟩
  have hu_w6 : Up w5 w6 := by (repeat (first | with_reducible exact Up.refl _ | with_reducible refine Up.alloc ?_ _ | with_reducible refine Up.drew ?_ | with_reducible refine Up.drewN ?_ _ | with_reducible refine Up.setCell ?_ (by (try simp) <;> omega) _ | with_reducible assumption | with_reducible refine Up.trans ?_ (by assumption)))
  have hz_w6 := Up.size hb_w6
  try simp at hz_w6
  obtain ⟨bc_w6_0, bf_w6_0⟩ := hu_w6.at_ (w.heap.size) (by omega)
  have zb_w6_0 : w.heap.size < w6.heap.size := by omega
  go_wp2_with fail
  refine (cins_nil).mono ?_
  rintro e w7 ⟨rfl, hb_w7⟩
  have hu_w7 : Up w6 w7 := by (repeat (first | with_reducible exact Up.refl _ | with_reducible refine Up.alloc ?_ _ | with_reducible refine Up.drew ?_ | with_reducible refine Up.drewN ?_ _ | with_reducible refine Up.setCell ?_ (by (try simp) <;> omega) _ | with_reducible assumption | with_reducible refine Up.trans ?_ (by assumption)))
  have hz_w7 := Up.size hb_w7
  try simp at hz_w7
  obtain ⟨bc_w7_0, bf_w7_0⟩ := hu_w7.at_ (w.heap.size) (by omega)
  have zb_w7_0 : w.heap.size < w7.heap.size := by omega
  go_wp2_with fail
  refine (cnulls_nil).mono ?_
  rintro e w8 ⟨rfl, hb_w8⟩
  have hu_w8 : Up w7 w8 := by (repeat (first | with_reducible exact Up.refl _ | with_reducible refine Up.alloc ?_ _ | with_reducible refine Up.drew ?_ | with_reducible refine Up.drewN ?_ _ | with_reducible refine Up.setCell ?_ (by (try simp) <;> omega) _ | with_reducible assumption | with_reducible refine Up.trans ?_ (by assumption)))
  have hz_w8 := Up.size hb_w8
  try simp at hz_w8
  obtain ⟨bc_w8_0, bf_w8_0⟩ := hu_w8.at_ (w.heap.size) (by omega)
  have zb_w8_0 : w.heap.size < w8.heap.size := by omega
  go_wp2_with fail
  refine (row_val _ _ _).mono ?_
  rintro e w9 ⟨bt, bt2, rfl, hb, hb2, hz, hz2, hcb, hcb2, hu9⟩
  go_wp2_with fail
  refine (rcollect_nil hcb hcb2).mono ?_
  rintro e w10 ⟨Ac, cc, rfl, hu10⟩
  have HUX := Lib.hid (hu9.trans hu10)
  clear hu9 hu10
  go_wp2_with fail
  go_ret
  exact ⟨rfl, (show Up w w8 by (repeat (first | with_reducible exact Up.refl _ | with_reducible refine Up.alloc ?_ _ | with_reducible refine Up.drew ?_ | with_reducible refine Up.drewN ?_ _ | with_reducible refine Up.setCell ?_ (by (try simp) <;> omega) _ | with_reducible assumption | with_reducible refine Up.trans ?_ (by assumption)))).trans HUX.out⟩
end Go.Proofs.Ytjokcfenncogkaa
