/-
  CursorNil: of no space, nothing. No condition.
-/
import Derived.Test.YtjokcfenncogkaaNil15
namespace Go.Proofs.Ytjokcfenncogkaa
open Go.RowKit Go.Shelf
set_option linter.unusedVariables false
set_option linter.unusedSimpArgs false
attribute [local go_sem] Oper.semAt_some

/-- the box b holds v still -/
structure InV (w : World) (b : Nat) (v : Value) (N : Nat → Prop) (W : World) : Prop where
  up : Up w W
  hb : W.cell? ⟨b, 0, none⟩ = some v
  nb : ¬ N b
  nw : ∀ k, N k → w.heap.size ≤ k
theorem InV.keep {w : World} {b : Nat} {v : Value} {N N' : Nat → Prop} {W W' : World} (h : InV w b v N W) (hk : Keep N W W') (hn : ∀ k, N' k → N k ∨ (W.heap.size ≤ k ∧ k < W'.heap.size)) : InV w b v N' W' := by
  obtain ⟨h1, h2, h3, h4⟩ := h
  have z := cell_lt h2
  refine ⟨h1.keep hk h4, ((hk.at_ b z h3).1 0).trans h2, fun h => ?_, fun k h => ?_⟩
  · rcases hn _ h with h | h
    · exact h3 h
    · have : b < W.heap.size := z; omega
  · rcases hn _ h with h | h
    · exact h4 k h
    · have := h1.size; omega
set_option maxRecDepth 100000 in
set_option maxHeartbeats 6400000 in
theorem cindex_nil {w : World} :
    Calls Try.prog 59 #[.pointer none] w fun e w' => e = .returned (.int .i64 (-1)) ∧ Up w w' := by
  refine (callsIn_wide (n := 9)).1 ?_
  refine callsIn_of_wp_marks Try.func59 rfl trivial ?_ rfl
  simp only [Try.ntmps59, List.size_toArray, List.length_cons, List.length_nil, Nat.reduceAdd, Nat.reduceSub, Array.replicate_succ, Array.replicate_zero, List.push_toArray, List.append_toArray, List.nil_append, List.cons_append]
  refine wpIn_wide.2 ?_
  go_wp2_with fail
  refine (tabs_val _ _).mono ?_
  rintro e w3 ⟨b, rfl, hb, hz, hcb, hfb, hu3⟩
  simp at hb hz
  have hc : ∀ k, k < w.heap.size + 3 → (∀ o, w3.cell? ⟨k, o, none⟩ = _) ∧ (∀ o, w3.frozen? ⟨k, o, none⟩ = _) := fun k hk => hu3.at_ k (by (try simp) <;> omega)
  have c1 : w3.cell? ⟨w.heap.size + 1, 0, none⟩ = some (.int .i64 0) := ((hc _ (by omega)).1 0).trans (by simp [go_sem])
  have g1 : w3.frozen? ⟨w.heap.size + 1, 0, none⟩ = false := ((hc _ (by omega)).2 0).trans (by simp [go_sem])
  have HU := Lib.hid (show Up w w3 by (repeat (first | with_reducible exact Up.refl _ | with_reducible refine Up.alloc ?_ _ | with_reducible refine Up.drew ?_ | with_reducible refine Up.drewN ?_ _ | with_reducible refine Up.setCell ?_ (by (try simp) <;> omega) _ | with_reducible assumption | with_reducible refine Up.trans ?_ (by assumption))))
  have HC1 := Lib.hid c1
  have HG1 := Lib.hid g1
  have HCB := Lib.hid hcb
  have HB : Hid (b ≠ w.heap.size + 1 ∧ b < w3.heap.size) := Lib.hid (by omega)
  clear hc hu3 hb hz c1 g1 hcb hfb
  go_wp2_with fail
  refine wpIn_wide.1 (range_n (n := 9) (gf := 127) (lb := #[.pointer (some ⟨b, 0, none⟩)]) rfl enters_tabs (tabs_none (b := b)) (fun _ => rfl)
    (fun _ => False) (fun k hk => hk.elim) (fun k hk => hk.elim) (fun _ _ => trivial)
    (fun N pre W => InV w (w.heap.size + 1) (.int .i64 0) N W ∧ InV w b (.pointer none) N W ∧ W.frozen? ⟨w.heap.size + 1, 0, none⟩ = false) (fun c N xs W => False)
    (fun N N' s A A' h hk hn => ⟨h.1.keep hk hn, h.2.1.keep hk hn, ((hk.at_ (w.heap.size + 1) (cell_lt h.1.hb) h.1.nb).2 0).trans h.2.2⟩) (fun _ _ _ _ _ _ h _ _ => h)
    (fun N pre W h => h.2.1.hb) ⟨⟨HU.out, HC1.out, fun h => h, fun k h => h.elim⟩, ⟨HU.out, HCB.out, fun h => h, fun k h => h.elim⟩, HG1.out⟩
    (fun _ _ _ _ _ => False) (fun _ _ _ _ _ _ _ _ h _ _ => h) (fun _ _ _ _ _ _ _ _ hG _ => hG.elim) (fun _ _ _ _ _ _ _ _ _ _ h => h.elim) ?done (fun _ _ _ _ _ _ _ _ h _ _ => h.elim))
  case done =>
    rintro Dd N xs W hD hND hN0 hS ⟨hI, hI2, hfr⟩ hK
    have h2 := hI.hb
    have zo := cell_lt h2
    simp only at zo
    have HI := Lib.hid hI
    have HK := Lib.hid hK
    have HND := Lib.hid hND
    have HDN := Lib.hid (show Dd ≠ w.heap.size + 1 from fun e => hI.nb (e ▸ hND))
    clear hI hI2 hK hND
    go_wp2
    have HK2 : (W.setCell ⟨w.heap.size + 1, 0, none⟩ (.int .i64 (-1))).heap[Dd]? = some (.deferred (some [])) := (Below.heap_setCell W ⟨w.heap.size + 1, 0, none⟩ _ Dd HDN.out).trans HK.out
    have HR2 : ((W.setCell ⟨w.heap.size + 1, 0, none⟩ (.int .i64 (-1))).putObj Dd (.deferred none)).cell? ⟨w.heap.size + 1, 0, none⟩ = some (.int .i64 (-1)) :=
      (World.cell?_of_block (a := ⟨w.heap.size + 1, 0, none⟩) (World.putObj_heap_other (fun e => HDN.out e.symm))).trans (World.cell?_setCell_same (h := h2) ..)
    refine ⟨by simp, .inl ⟨_, _, rfl, run_takeDeferred HK2, ?_⟩⟩
    refine ⟨.int .i64 (-1), by simp [results, Try.results59, go_sem, HR2], rfl, ?_⟩
    exact ((HI.out.up.setCell (by simp) _)).keep (keep_put (N := fun k => k = Dd) _ rfl) (fun i hi => by subst hi; exact HI.out.nw _ HND.out)
set_option maxRecDepth 100000 in
set_option maxHeartbeats 6400000 in
theorem law_nil15 (a b : Int) (w : World) (a0 : -9223372036854775808 ≤ a) (a1 : a ≤ 9223372036854775807) (b0 : -9223372036854775808 ≤ b) (b1 : b ≤ 9223372036854775807) :
    Calls Try.prog 12 #[.int .i64 a, .int .i64 b] w fun e w' => e = .returned (.bool true) ∧ Up w w' := by
  go_enter Try.func12, Try.ntmps12
  go_wp2_with fail
  refine (awake15 _).mono ?_
  rintro e w1 ⟨rfl, hb_w1⟩
  have hu_w1 : Up w w1 := by (repeat (first | with_reducible exact Up.refl _ | with_reducible refine Up.alloc ?_ _ | with_reducible refine Up.drew ?_ | with_reducible refine Up.drewN ?_ _ | with_reducible refine Up.setCell ?_ (by (try simp) <;> omega) _ | with_reducible assumption | with_reducible refine Up.trans ?_ (by assumption)))
  have hz_w1 := Up.size hb_w1
  try simp at hz_w1
  go_wp2_with fail
  refine (ctab_nil).mono ?_
  rintro e w2 ⟨rfl, hb_w2⟩
  have hu_w2 : Up w1 w2 := by (repeat (first | with_reducible exact Up.refl _ | with_reducible refine Up.alloc ?_ _ | with_reducible refine Up.drew ?_ | with_reducible refine Up.drewN ?_ _ | with_reducible refine Up.setCell ?_ (by (try simp) <;> omega) _ | with_reducible assumption | with_reducible refine Up.trans ?_ (by assumption)))
  have hz_w2 := Up.size hb_w2
  try simp at hz_w2
  go_wp2_with fail
  refine (cback_nil).mono ?_
  rintro e w3 ⟨rfl, hb_w3⟩
  have hu_w3 : Up w2 w3 := by (repeat (first | with_reducible exact Up.refl _ | with_reducible refine Up.alloc ?_ _ | with_reducible refine Up.drew ?_ | with_reducible refine Up.drewN ?_ _ | with_reducible refine Up.setCell ?_ (by (try simp) <;> omega) _ | with_reducible assumption | with_reducible refine Up.trans ?_ (by assumption)))
  have hz_w3 := Up.size hb_w3
  try simp at hz_w3
  go_wp2_with fail
  refine (cline_nil).mono ?_
  rintro e w4 ⟨rfl, hb_w4⟩
  have hu_w4 : Up w3 w4 := by (repeat (first | with_reducible exact Up.refl _ | with_reducible refine Up.alloc ?_ _ | with_reducible refine Up.drew ?_ | with_reducible refine Up.drewN ?_ _ | with_reducible refine Up.setCell ?_ (by (try simp) <;> omega) _ | with_reducible assumption | with_reducible refine Up.trans ?_ (by assumption)))
  have hz_w4 := Up.size hb_w4
  try simp at hz_w4
  go_wp2_with fail
  refine (chome_nil).mono ?_
  rintro e w5 ⟨rfl, hb_w5⟩
  have hu_w5 : Up w4 w5 := by (repeat (first | with_reducible exact Up.refl _ | with_reducible refine Up.alloc ?_ _ | with_reducible refine Up.drew ?_ | with_reducible refine Up.drewN ?_ _ | with_reducible refine Up.setCell ?_ (by (try simp) <;> omega) _ | with_reducible assumption | with_reducible refine Up.trans ?_ (by assumption)))
  have hz_w5 := Up.size hb_w5
  try simp at hz_w5
  go_wp2_with fail
  refine (cmove_nil).mono ?_
  rintro e w6 ⟨rfl, hb_w6⟩
  have hu_w6 : Up w5 w6 := by (repeat (first | with_reducible exact Up.refl _ | with_reducible refine Up.alloc ?_ _ | with_reducible refine Up.drew ?_ | with_reducible refine Up.drewN ?_ _ | with_reducible refine Up.setCell ?_ (by (try simp) <;> omega) _ | with_reducible assumption | with_reducible refine Up.trans ?_ (by assumption)))
  have hz_w6 := Up.size hb_w6
  try simp at hz_w6
  go_wp2_with fail
  refine (cafter_nil).mono ?_
  rintro e w7 ⟨rfl, hb_w7⟩
  have hu_w7 : Up w6 w7 := by (repeat (first | with_reducible exact Up.refl _ | with_reducible refine Up.alloc ?_ _ | with_reducible refine Up.drew ?_ | with_reducible refine Up.drewN ?_ _ | with_reducible refine Up.setCell ?_ (by (try simp) <;> omega) _ | with_reducible assumption | with_reducible refine Up.trans ?_ (by assumption)))
  have hz_w7 := Up.size hb_w7
  try simp at hz_w7
  go_wp2_with fail
  refine (cfirst_nil).mono ?_
  rintro e w8 ⟨rfl, hb_w8⟩
  have hu_w8 : Up w7 w8 := by (repeat (first | with_reducible exact Up.refl _ | with_reducible refine Up.alloc ?_ _ | with_reducible refine Up.drew ?_ | with_reducible refine Up.drewN ?_ _ | with_reducible refine Up.setCell ?_ (by (try simp) <;> omega) _ | with_reducible assumption | with_reducible refine Up.trans ?_ (by assumption)))
  have hz_w8 := Up.size hb_w8
  try simp at hz_w8
  go_wp2_with fail
  refine (tabs_val _ _).mono ?_
  rintro e w9 ⟨bt, rfl, hb, hz, hcb, hfb, hu9⟩
  go_wp2_with fail
  refine (tcollect_nil hcb).mono ?_
  rintro e w10 ⟨Ac, cc, rfl, hu10⟩
  have hb_w10 : Up w8 w10 := hu9.trans hu10
  have hu_w10 : Up w8 w10 := hb_w10
  clear hu9 hu10
  go_wp2_with fail
  refine (cindex_nil).mono ?_
  rintro e w11 ⟨rfl, hb_w11⟩
  have hu_w11 : Up w10 w11 := by (repeat (first | with_reducible exact Up.refl _ | with_reducible refine Up.alloc ?_ _ | with_reducible refine Up.drew ?_ | with_reducible refine Up.drewN ?_ _ | with_reducible refine Up.setCell ?_ (by (try simp) <;> omega) _ | with_reducible assumption | with_reducible refine Up.trans ?_ (by assumption)))
  have hz_w11 := Up.size hb_w11
  try simp at hz_w11
  go_wp2_with fail
  go_ret
  exact ⟨rfl, by (repeat (first | with_reducible exact Up.refl _ | with_reducible refine Up.alloc ?_ _ | with_reducible refine Up.drew ?_ | with_reducible refine Up.drewN ?_ _ | with_reducible refine Up.setCell ?_ (by (try simp) <;> omega) _ | with_reducible assumption | with_reducible refine Up.trans ?_ (by assumption)))⟩
end Go.Proofs.Ytjokcfenncogkaa
