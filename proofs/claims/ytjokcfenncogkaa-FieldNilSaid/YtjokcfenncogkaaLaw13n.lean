/-
  FieldNil: of no space, there is nothing. No condition.
-/
import Derived.Test.YtjokcfenncogkaaNil13
namespace Go.Proofs.Ytjokcfenncogkaa
open Go.RowKit Go.Shelf
set_option linter.unusedVariables false
set_option linter.unusedSimpArgs false
attribute [local go_sem] Oper.semAt_some

theorem up_of {f : Nat} {args : Array Value} {w : World} {x : Value} (h : Calls Try.prog f args w fun e w' => e = .returned x ∧ w = w') : Calls Try.prog f args w fun e w' => e = .returned x ∧ Up w w' := h.mono (by rintro e w' ⟨rfl, rfl⟩; exact ⟨rfl, Up.refl _⟩)
theorem fstart_nil {n : Int} {w : World} :
    Calls Try.prog 50 #[.pointer none, .int .i64 n] w fun e w' => e = .returned (.int .i64 (-1)) ∧ Up w w' := by
  go_enter Try.func50, Try.ntmps50
  go_wp2_with fail
  refine (up_of sform_nil).mono ?_
  rintro e w1 ⟨rfl, hb_w1⟩
  have hu_w1 : Up w w1 := by (repeat (first | with_reducible exact Up.refl _ | with_reducible refine Up.alloc ?_ _ | with_reducible refine Up.drew ?_ | with_reducible refine Up.drewN ?_ _ | with_reducible refine Up.setCell ?_ (by (try simp) <;> omega) _ | with_reducible assumption | with_reducible refine Up.trans ?_ (by assumption)))
  have hz_w1 := Up.size hb_w1
  try simp at hz_w1
  go_wp2_with fail
  go_ret
  exact ⟨rfl, by (repeat (first | with_reducible exact Up.refl _ | with_reducible refine Up.alloc ?_ _ | with_reducible refine Up.drew ?_ | with_reducible refine Up.drewN ?_ _ | with_reducible refine Up.setCell ?_ (by (try simp) <;> omega) _ | with_reducible assumption | with_reducible refine Up.trans ?_ (by assumption)))⟩
theorem ffind_nil {n s : Int} {w : World} :
    Calls Try.prog 119 #[.pointer none, .int .i64 n, .int .i64 s] w fun e w' => e = .returned (.int .i64 (-1)) ∧ Up w w' := by
  go_enter Try.func119, Try.ntmps119
  go_wp2_with fail
  refine (ssize_nil).mono ?_
  rintro e w1 ⟨rfl, hb_w1⟩
  have hu_w1 : Up w w1 := by (repeat (first | with_reducible exact Up.refl _ | with_reducible refine Up.alloc ?_ _ | with_reducible refine Up.drew ?_ | with_reducible refine Up.drewN ?_ _ | with_reducible refine Up.setCell ?_ (by (try simp) <;> omega) _ | with_reducible assumption | with_reducible refine Up.trans ?_ (by assumption)))
  have hz_w1 := Up.size hb_w1
  try simp at hz_w1
  go_wp2_with fail
  refine (cells_bad _ _ _ valid_zero13).mono ?_
  rintro e w2 ⟨rfl, hb_w2⟩
  have hu_w2 : Up w1 w2 := by (repeat (first | with_reducible exact Up.refl _ | with_reducible refine Up.alloc ?_ _ | with_reducible refine Up.drew ?_ | with_reducible refine Up.drewN ?_ _ | with_reducible refine Up.setCell ?_ (by (try simp) <;> omega) _ | with_reducible assumption | with_reducible refine Up.trans ?_ (by assumption)))
  have hz_w2 := Up.size hb_w2
  try simp at hz_w2
  go_wp2_with fail
  go_loopw [1, 12] (fun v i wr => i = .int .i64 0 ∧ v = .int .i64 n ∧ Up w2 wr) (fun _ _ _ => 0)
  case atStart => exact ⟨rfl, rfl, Up.refl _⟩
  case round =>
    obtain ⟨rfl, rfl, hu⟩ := hrel
    have HU := Lib.hid hu
    clear hu
    go_wp2_with fail
    go_ret
    exact ⟨rfl, hu_w1.trans (hu_w2.trans HU.out)⟩
theorem fnext_nil {n : Int} {w : World} :
    Calls Try.prog 38 #[.pointer none, .int .i64 n] w fun e w' => e = .returned (.int .i64 (-1)) ∧ Up w w' := by
  go_enter Try.func38, Try.ntmps38
  go_wp2_with fail
  refine (ssize_nil).mono ?_
  rintro e w1 ⟨rfl, hb_w1⟩
  have hu_w1 : Up w w1 := by (repeat (first | with_reducible exact Up.refl _ | with_reducible refine Up.alloc ?_ _ | with_reducible refine Up.drew ?_ | with_reducible refine Up.drewN ?_ _ | with_reducible refine Up.setCell ?_ (by (try simp) <;> omega) _ | with_reducible assumption | with_reducible refine Up.trans ?_ (by assumption)))
  have hz_w1 := Up.size hb_w1
  try simp at hz_w1
  go_wp2_with fail
  refine (wrap_bad _ _ _ _ valid_zero13).mono ?_
  rintro e w2 ⟨rfl, hb_w2⟩
  have hu_w2 : Up w1 w2 := by (repeat (first | with_reducible exact Up.refl _ | with_reducible refine Up.alloc ?_ _ | with_reducible refine Up.drew ?_ | with_reducible refine Up.drewN ?_ _ | with_reducible refine Up.setCell ?_ (by (try simp) <;> omega) _ | with_reducible assumption | with_reducible refine Up.trans ?_ (by assumption)))
  have hz_w2 := Up.size hb_w2
  try simp at hz_w2
  go_wp2_with fail
  refine (ffind_nil).mono ?_
  rintro e w3 ⟨rfl, hb_w3⟩
  have hu_w3 : Up w2 w3 := by (repeat (first | with_reducible exact Up.refl _ | with_reducible refine Up.alloc ?_ _ | with_reducible refine Up.drew ?_ | with_reducible refine Up.drewN ?_ _ | with_reducible refine Up.setCell ?_ (by (try simp) <;> omega) _ | with_reducible assumption | with_reducible refine Up.trans ?_ (by assumption)))
  have hz_w3 := Up.size hb_w3
  try simp at hz_w3
  go_wp2_with fail
  go_ret
  exact ⟨rfl, by (repeat (first | with_reducible exact Up.refl _ | with_reducible refine Up.alloc ?_ _ | with_reducible refine Up.drew ?_ | with_reducible refine Up.drewN ?_ _ | with_reducible refine Up.setCell ?_ (by (try simp) <;> omega) _ | with_reducible assumption | with_reducible refine Up.trans ?_ (by assumption)))⟩
theorem fprev_nil {n : Int} {w : World} :
    Calls Try.prog 39 #[.pointer none, .int .i64 n] w fun e w' => e = .returned (.int .i64 (-1)) ∧ Up w w' := by
  go_enter Try.func39, Try.ntmps39
  go_wp2_with fail
  refine (ssize_nil).mono ?_
  rintro e w1 ⟨rfl, hb_w1⟩
  have hu_w1 : Up w w1 := by (repeat (first | with_reducible exact Up.refl _ | with_reducible refine Up.alloc ?_ _ | with_reducible refine Up.drew ?_ | with_reducible refine Up.drewN ?_ _ | with_reducible refine Up.setCell ?_ (by (try simp) <;> omega) _ | with_reducible assumption | with_reducible refine Up.trans ?_ (by assumption)))
  have hz_w1 := Up.size hb_w1
  try simp at hz_w1
  go_wp2_with fail
  refine (wrap_bad _ _ _ _ valid_zero13).mono ?_
  rintro e w2 ⟨rfl, hb_w2⟩
  have hu_w2 : Up w1 w2 := by (repeat (first | with_reducible exact Up.refl _ | with_reducible refine Up.alloc ?_ _ | with_reducible refine Up.drew ?_ | with_reducible refine Up.drewN ?_ _ | with_reducible refine Up.setCell ?_ (by (try simp) <;> omega) _ | with_reducible assumption | with_reducible refine Up.trans ?_ (by assumption)))
  have hz_w2 := Up.size hb_w2
  try simp at hz_w2
  go_wp2_with fail
  refine (ffind_nil).mono ?_
  rintro e w3 ⟨rfl, hb_w3⟩
  have hu_w3 : Up w2 w3 := by (repeat (first | with_reducible exact Up.refl _ | with_reducible refine Up.alloc ?_ _ | with_reducible refine Up.drew ?_ | with_reducible refine Up.drewN ?_ _ | with_reducible refine Up.setCell ?_ (by (try simp) <;> omega) _ | with_reducible assumption | with_reducible refine Up.trans ?_ (by assumption)))
  have hz_w3 := Up.size hb_w3
  try simp at hz_w3
  go_wp2_with fail
  go_ret
  exact ⟨rfl, by (repeat (first | with_reducible exact Up.refl _ | with_reducible refine Up.alloc ?_ _ | with_reducible refine Up.drew ?_ | with_reducible refine Up.drewN ?_ _ | with_reducible refine Up.setCell ?_ (by (try simp) <;> omega) _ | with_reducible assumption | with_reducible refine Up.trans ?_ (by assumption)))⟩
theorem fof_nil {n : Int} {w : World} :
    Calls Try.prog 49 #[.pointer none, .int .i64 n] w fun e w' => e = .returned (.tuple #[.agg #[.bool false, .bool false, .int .i64 0, .bool false], .bool false]) ∧ Up w w' := by
  go_enter Try.func49, Try.ntmps49
  go_wp2_with fail
  refine fstart_nil.mono ?_
  rintro e w1 ⟨rfl, hu1⟩
  have hb := hu1.at_ w.heap.size (by simp)
  have k0 := (hb.1 0).trans (by simp [go_sem] : _ = some (.bool false))
  have k1 := (hb.1 1).trans (by simp [go_sem] : _ = some (.bool false))
  have k2 := (hb.1 2).trans (by simp [go_sem] : _ = some (.int .i64 0))
  have k3 := (hb.1 3).trans (by simp [go_sem] : _ = some (.bool false))
  have zk : w.heap.size < w1.heap.size := by have := hu1.size; simp at this; omega
  go_wp2_with fail
  exact bodyPost_ret (v := .tuple #[.agg #[.bool false, .bool false, .int .i64 0, .bool false], .bool false]) (by simp [results, Try.results49, go_sem, k0, k1, k2, k3]) rfl ⟨rfl, by (repeat (first | with_reducible exact Up.refl _ | with_reducible refine Up.alloc ?_ _ | with_reducible refine Up.drew ?_ | with_reducible refine Up.drewN ?_ _ | with_reducible refine Up.setCell ?_ (by (try simp) <;> omega) _ | with_reducible assumption | with_reducible refine Up.trans ?_ (by assumption)))⟩
theorem fmodify_nil {n : Int} {w : World} :
    Calls Try.prog 82 #[.pointer none, .int .i64 n] w fun e w' => e = .returned (.bool false) ∧ Up w w' := by
  go_enter Try.func82, Try.ntmps82
  go_wp2_with fail
  refine (fstart_nil).mono ?_
  rintro e w1 ⟨rfl, hb_w1⟩
  have hu_w1 : Up w w1 := by (repeat (first | with_reducible exact Up.refl _ | with_reducible refine Up.alloc ?_ _ | with_reducible refine Up.drew ?_ | with_reducible refine Up.drewN ?_ _ | with_reducible refine Up.setCell ?_ (by (try simp) <;> omega) _ | with_reducible assumption | with_reducible refine Up.trans ?_ (by assumption)))
  have hz_w1 := Up.size hb_w1
  try simp at hz_w1
  go_wp2_with fail
  go_ret
  exact ⟨rfl, by (repeat (first | with_reducible exact Up.refl _ | with_reducible refine Up.alloc ?_ _ | with_reducible refine Up.drew ?_ | with_reducible refine Up.drewN ?_ _ | with_reducible refine Up.setCell ?_ (by (try simp) <;> omega) _ | with_reducible assumption | with_reducible refine Up.trans ?_ (by assumption)))⟩
theorem fopen_nil {n : Int} {w : World} :
    Calls Try.prog 52 #[.pointer none, .int .i64 n] w fun e w' => e = .returned (.bool false) ∧ Up w w' := by
  go_enter Try.func52, Try.ntmps52
  go_wp2_with fail
  refine (fof_nil).mono ?_
  rintro e w1 ⟨rfl, hb_w1⟩
  have hu_w1 : Up w w1 := by (repeat (first | with_reducible exact Up.refl _ | with_reducible refine Up.alloc ?_ _ | with_reducible refine Up.drew ?_ | with_reducible refine Up.drewN ?_ _ | with_reducible refine Up.setCell ?_ (by (try simp) <;> omega) _ | with_reducible assumption | with_reducible refine Up.trans ?_ (by assumption)))
  have hz_w1 := Up.size hb_w1
  try simp at hz_w1
  go_wp2_with fail
  go_ret
  exact ⟨rfl, by (repeat (first | with_reducible exact Up.refl _ | with_reducible refine Up.alloc ?_ _ | with_reducible refine Up.drew ?_ | with_reducible refine Up.drewN ?_ _ | with_reducible refine Up.setCell ?_ (by (try simp) <;> omega) _ | with_reducible assumption | with_reducible refine Up.trans ?_ (by assumption)))⟩
theorem modified_nval (w : World) : Calls Try.prog 85 #[.pointer none] w fun e w' => ∃ b, e = .returned (.func (.func 132) #[] #[.pointer (some ⟨b, 0, none⟩)]) ∧ w'.cell? ⟨b, 0, none⟩ = some (.pointer none) ∧ Up w w' := (modified_val none w).mono (by rintro e w' ⟨b, rfl, _, _, h, _, hu⟩; exact ⟨b, rfl, h, hu⟩)
set_option maxRecDepth 100000 in
set_option maxHeartbeats 6400000 in
theorem law_nil13 (n : Int) (w : World) (n0 : -9223372036854775808 ≤ n) (n1 : n ≤ 9223372036854775807) :
    Calls Try.prog 14 #[.int .i64 n] w fun e w' => e = .returned (.bool true) ∧ Up w w' := by
  refine (callsIn_wide (n := 9)).1 ?_
  refine callsIn_of_wp_marks Try.func14 rfl trivial ?_ rfl
  simp only [Try.ntmps14, List.size_toArray, List.length_cons, List.length_nil, Nat.reduceAdd, Nat.reduceSub, Array.replicate_succ, Array.replicate_zero, List.push_toArray, List.append_toArray, List.nil_append, List.cons_append]
  refine wpIn_wide.2 ?_
  go_wp2_with fail
  refine (awake13 _).mono ?_
  rintro e w1 ⟨rfl, hb_w1⟩
  have hu_w1 : Up w w1 := by (repeat (first | with_reducible exact Up.refl _ | with_reducible refine Up.alloc ?_ _ | with_reducible refine Up.drew ?_ | with_reducible refine Up.drewN ?_ _ | with_reducible refine Up.setCell ?_ (by (try simp) <;> omega) _ | with_reducible assumption | with_reducible refine Up.trans ?_ (by assumption)))
  have hz_w1 := Up.size hb_w1
  try simp at hz_w1
  obtain ⟨bd_w1_0, be_w1_0⟩ := hb_w1.at_ (w.heap.size) (by (try simp) <;> omega)
  have zb_w1_0 : w.heap.size < w1.heap.size := by omega
  go_wp2_with fail
  refine (fof_nil).mono ?_
  rintro e w2 ⟨rfl, hb_w2⟩
  have hu_w2 : Up w1 w2 := by (repeat (first | with_reducible exact Up.refl _ | with_reducible refine Up.alloc ?_ _ | with_reducible refine Up.drew ?_ | with_reducible refine Up.drewN ?_ _ | with_reducible refine Up.setCell ?_ (by (try simp) <;> omega) _ | with_reducible assumption | with_reducible refine Up.trans ?_ (by assumption)))
  have hz_w2 := Up.size hb_w2
  try simp at hz_w2
  obtain ⟨bc_w2_0, bf_w2_0⟩ := hu_w2.at_ (w.heap.size) (by omega)
  have zb_w2_0 : w.heap.size < w2.heap.size := by omega
  go_wp2_with fail
  refine (funmodify_nil).mono ?_
  rintro e w3 ⟨rfl, hb_w3⟩
  have hu_w3 : Up w2 w3 := by (repeat (first | with_reducible exact Up.refl _ | with_reducible refine Up.alloc ?_ _ | with_reducible refine Up.drew ?_ | with_reducible refine Up.drewN ?_ _ | with_reducible refine Up.setCell ?_ (by (try simp) <;> omega) _ | with_reducible assumption | with_reducible refine Up.trans ?_ (by assumption)))
  have hz_w3 := Up.size hb_w3
  try simp at hz_w3
  obtain ⟨bc_w3_0, bf_w3_0⟩ := hu_w3.at_ (w.heap.size) (by omega)
  obtain ⟨bd_w3_0, be_w3_0⟩ := hb_w3.at_ (w2.heap.size) (by (try simp) <;> omega)
  have zb_w3_0 : w.heap.size < w3.heap.size := by omega
  have zb_w3_1 : w2.heap.size < w3.heap.size := by omega
  go_wp2_with fail
  refine (fields_val _ _).mono ?_
  rintro e w4 ⟨b, rfl, hb, hz, hcb, hfb, hu4⟩
  obtain ⟨q1, q2⟩ := hu4.at_ w.heap.size (by omega)
  have c1 : w4.cell? ⟨w.heap.size, 0, none⟩ = some (.bool false) := (q1 0).trans ((bc_w3_0 0).trans ((bc_w2_0 0).trans ((bd_w1_0 0).trans (by simp [go_sem]))))
  have HU := Lib.hid (show Up w w4 by (repeat (first | with_reducible exact Up.refl _ | with_reducible refine Up.alloc ?_ _ | with_reducible refine Up.drew ?_ | with_reducible refine Up.drewN ?_ _ | with_reducible refine Up.setCell ?_ (by (try simp) <;> omega) _ | with_reducible assumption | with_reducible refine Up.trans ?_ (by assumption))))
  have HC1 := Lib.hid c1
  have HF1 := Lib.hid (show w4.frozen? ⟨w.heap.size, 0, none⟩ = false from (q2 0).trans ((bf_w3_0 0).trans ((bf_w2_0 0).trans ((be_w1_0 0).trans (by simp [go_sem])))))
  have HCB := Lib.hid hcb
  have HBN := Lib.hid (show b ≠ w.heap.size by omega)
  have HB2 := Lib.hid (show w.heap.size < w2.heap.size by omega)
  clear q1 q2 c1 hcb hu4
  go_wp2_with fail
  refine wpIn_wide.1 (range_n (n := 9) (gf := 129) (lb := #[.pointer (some ⟨b, 0, none⟩)]) rfl enters_fields (fields_nil (b := b)) (fun _ => rfl)
    (fun _ => False) (fun k hk => hk.elim) (fun k hk => hk.elim) (fun _ _ => trivial)
    (fun N pre W => InV w w.heap.size (.bool false) N W ∧ InV w b (.pointer none) N W ∧ W.frozen? ⟨w.heap.size, 0, none⟩ = false) (fun c N xs W => False)
    (fun N N' s A A' h hk hn => ⟨h.1.keep hk hn, h.2.1.keep hk hn, ((hk.at_ w.heap.size (cell_lt h.1.hb) h.1.nb).2 0).trans h.2.2⟩) (fun _ _ _ _ _ _ h _ _ => h)
    (fun N pre W h => h.2.1.hb) ⟨⟨HU.out, HC1.out, fun h => h, fun k h => h.elim⟩, ⟨HU.out, HCB.out, fun h => h, fun k h => h.elim⟩, HF1.out⟩
    (fun _ _ _ _ _ => False) (fun _ _ _ _ _ _ _ _ h _ _ => h) (fun _ _ _ _ _ _ _ _ hG _ => hG.elim) (fun _ _ _ _ _ _ _ _ _ _ h => h.elim) ?done (fun _ _ _ _ _ _ _ _ h _ _ => h.elim))
  case done =>
    rintro Dd N xs W hD hND hN0 hS ⟨hI, hI2, hfr⟩ hK
    have h2 := hI.hb
    have zo := cell_lt h2
    simp only at zo
    have HI := Lib.hid hI
    have HK := Lib.hid hK
    have HND := Lib.hid hND
    have zd : Dd < W.heap.size := (Array.getElem?_eq_some_iff.1 hK).1
    have HDN := Lib.hid (show Dd ≠ w.heap.size from fun e => hI.nb (e ▸ hND))
    clear hI hI2 hK hND
    go_wp2_with fail
    refine (fstart_nil).mono ?_
    rintro e a1 ⟨rfl, hb_a1⟩
    have hu_a1 : Up W a1 := by (repeat (first | with_reducible exact Up.refl _ | with_reducible refine Up.alloc ?_ _ | with_reducible refine Up.drew ?_ | with_reducible refine Up.drewN ?_ _ | with_reducible refine Up.setCell ?_ (by (try simp) <;> omega) _ | with_reducible assumption | with_reducible refine Up.trans ?_ (by assumption)))
    have hz_a1 := Up.size hb_a1
    try simp at hz_a1
    obtain ⟨bc_a1_0, bf_a1_0⟩ := hu_a1.at_ (w.heap.size) (by omega)
    have zb_a1_0 : w.heap.size < a1.heap.size := by omega
    go_wp2_with fail
    refine (flength_nil).mono ?_
    rintro e a2 ⟨rfl, hb_a2⟩
    have hu_a2 : Up a1 a2 := by (repeat (first | with_reducible exact Up.refl _ | with_reducible refine Up.alloc ?_ _ | with_reducible refine Up.drew ?_ | with_reducible refine Up.drewN ?_ _ | with_reducible refine Up.setCell ?_ (by (try simp) <;> omega) _ | with_reducible assumption | with_reducible refine Up.trans ?_ (by assumption)))
    have hz_a2 := Up.size hb_a2
    try simp at hz_a2
    obtain ⟨bc_a2_0, bf_a2_0⟩ := hu_a2.at_ (w.heap.size) (by omega)
    have zb_a2_0 : w.heap.size < a2.heap.size := by omega
    go_wp2_with fail
    refine (fnext_nil).mono ?_
    rintro e a3 ⟨rfl, hb_a3⟩
    have hu_a3 : Up a2 a3 := by (repeat (first | with_reducible exact Up.refl _ | with_reducible refine Up.alloc ?_ _ | with_reducible refine Up.drew ?_ | with_reducible refine Up.drewN ?_ _ | with_reducible refine Up.setCell ?_ (by (try simp) <;> omega) _ | with_reducible assumption | with_reducible refine Up.trans ?_ (by assumption)))
    have hz_a3 := Up.size hb_a3
    try simp at hz_a3
    obtain ⟨bc_a3_0, bf_a3_0⟩ := hu_a3.at_ (w.heap.size) (by omega)
    have zb_a3_0 : w.heap.size < a3.heap.size := by omega
    go_wp2_with fail
    refine (fprev_nil).mono ?_
    rintro e a4 ⟨rfl, hb_a4⟩
    have hu_a4 : Up a3 a4 := by (repeat (first | with_reducible exact Up.refl _ | with_reducible refine Up.alloc ?_ _ | with_reducible refine Up.drew ?_ | with_reducible refine Up.drewN ?_ _ | with_reducible refine Up.setCell ?_ (by (try simp) <;> omega) _ | with_reducible assumption | with_reducible refine Up.trans ?_ (by assumption)))
    have hz_a4 := Up.size hb_a4
    try simp at hz_a4
    obtain ⟨bc_a4_0, bf_a4_0⟩ := hu_a4.at_ (w.heap.size) (by omega)
    have zb_a4_0 : w.heap.size < a4.heap.size := by omega
    go_wp2_with fail
    refine (fmodify_nil).mono ?_
    rintro e a5 ⟨rfl, hb_a5⟩
    have hu_a5 : Up a4 a5 := by (repeat (first | with_reducible exact Up.refl _ | with_reducible refine Up.alloc ?_ _ | with_reducible refine Up.drew ?_ | with_reducible refine Up.drewN ?_ _ | with_reducible refine Up.setCell ?_ (by (try simp) <;> omega) _ | with_reducible assumption | with_reducible refine Up.trans ?_ (by assumption)))
    have hz_a5 := Up.size hb_a5
    try simp at hz_a5
    obtain ⟨bc_a5_0, bf_a5_0⟩ := hu_a5.at_ (w.heap.size) (by omega)
    have zb_a5_0 : w.heap.size < a5.heap.size := by omega
    go_wp2_with fail
    refine (modified_nval _).mono ?_
    rintro e a6 ⟨bm, rfl, hbm, hu6⟩
    go_wp2_with fail
    refine (fcollect_nil hbm).mono ?_
    rintro e a7 ⟨Ac, cc, rfl, hu7⟩
    have hb_a7 : Up a5 a7 := hu6.trans hu7
    have hu_a7 : Up a5 a7 := hb_a7
    have hz_a7 := hb_a7.size
    obtain ⟨ba7, fa7⟩ := hb_a7.at_ w.heap.size (by omega)
    clear hu6 hu7
    go_wp2_with fail
    refine (fopen_nil).mono ?_
    rintro e a8 ⟨rfl, hb_a8⟩
    have hu_a8 : Up a7 a8 := by (repeat (first | with_reducible exact Up.refl _ | with_reducible refine Up.alloc ?_ _ | with_reducible refine Up.drew ?_ | with_reducible refine Up.drewN ?_ _ | with_reducible refine Up.setCell ?_ (by (try simp) <;> omega) _ | with_reducible assumption | with_reducible refine Up.trans ?_ (by assumption)))
    have hz_a8 := Up.size hb_a8
    try simp at hz_a8
    obtain ⟨bc_a8_0, bf_a8_0⟩ := hu_a8.at_ (w.heap.size) (by omega)
    have zb_a8_0 : w.heap.size < a8.heap.size := by omega
    go_wp2_with fail
    refine (ftext_nil).mono ?_
    rintro e a9 ⟨rfl, hb_a9⟩
    have hu_a9 : Up a8 a9 := by (repeat (first | with_reducible exact Up.refl _ | with_reducible refine Up.alloc ?_ _ | with_reducible refine Up.drew ?_ | with_reducible refine Up.drewN ?_ _ | with_reducible refine Up.setCell ?_ (by (try simp) <;> omega) _ | with_reducible assumption | with_reducible refine Up.trans ?_ (by assumption)))
    have hz_a9 := Up.size hb_a9
    try simp at hz_a9
    obtain ⟨bc_a9_0, bf_a9_0⟩ := hu_a9.at_ (w.heap.size) (by omega)
    have zb_a9_0 : w.heap.size < a9.heap.size := by omega
    go_wp2_with fail
    refine (funprotected_nil).mono ?_
    rintro e a10 ⟨rfl, hb_a10⟩
    have hu_a10 : Up a9 a10 := by (repeat (first | with_reducible exact Up.refl _ | with_reducible refine Up.alloc ?_ _ | with_reducible refine Up.drew ?_ | with_reducible refine Up.drewN ?_ _ | with_reducible refine Up.setCell ?_ (by (try simp) <;> omega) _ | with_reducible assumption | with_reducible refine Up.trans ?_ (by assumption)))
    have hz_a10 := Up.size hb_a10
    try simp at hz_a10
    obtain ⟨bc_a10_0, bf_a10_0⟩ := hu_a10.at_ (w.heap.size) (by omega)
    have zb_a10_0 : w.heap.size < a10.heap.size := by omega
    go_wp2_with fail
    have HU2 := Lib.hid (show Up W a10 by (repeat (first | with_reducible exact Up.refl _ | with_reducible refine Up.alloc ?_ _ | with_reducible refine Up.drew ?_ | with_reducible refine Up.drewN ?_ _ | with_reducible refine Up.setCell ?_ (by (try simp) <;> omega) _ | with_reducible assumption | with_reducible refine Up.trans ?_ (by assumption))))
    have k0 : a10.cell? ⟨w.heap.size, 0, none⟩ = some (.bool false) := ((HU2.out.at_ w.heap.size zo).1 0).trans h2
    have HK2 : (a10.setCell ⟨w.heap.size, 0, none⟩ (.bool true)).heap[Dd]? = some (.deferred (some [])) := (Below.heap_setCell a10 ⟨w.heap.size, 0, none⟩ _ Dd HDN.out).trans ((HU2.out.block Dd zd).trans HK.out)
    have HR2 : ((a10.setCell ⟨w.heap.size, 0, none⟩ (.bool true)).putObj Dd (.deferred none)).cell? ⟨w.heap.size, 0, none⟩ = some (.bool true) :=
      (World.cell?_of_block (a := ⟨w.heap.size, 0, none⟩) (World.putObj_heap_other (fun e => HDN.out e.symm))).trans (World.cell?_setCell_same (h := k0) ..)
    refine ⟨by simp, .inl ⟨_, _, rfl, run_takeDeferred HK2, ?_⟩⟩
    refine ⟨.bool true, by simp [results, Try.results14, go_sem, HR2], rfl, ?_⟩
    exact (((HI.out.up.trans HU2.out).setCell (by simp) _)).keep (keep_put (N := fun k => k = Dd) _ rfl) (fun i hi => by subst hi; exact HI.out.nw _ HND.out)
end Go.Proofs.Ytjokcfenncogkaa
