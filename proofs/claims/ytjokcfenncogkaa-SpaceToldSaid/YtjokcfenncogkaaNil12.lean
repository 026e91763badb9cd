/-
  Of no space: All, the law's cells, Diff. No condition.
-/
import Derived.Test.YtjokcfenncogkaaEqI
namespace Go.Proofs.Ytjokcfenncogkaa
open Go.RowKit Go.Shelf
set_option linter.unusedVariables false
set_option linter.unusedSimpArgs false
attribute [local go_sem] Oper.semAt_some

theorem valid_zero : validB 0 0 = false := by decide
set_option maxHeartbeats 3200000 in
theorem all_nil {b : Nat} : ItN Try.prog 158 #[.pointer (some ⟨b, 0, none⟩)] encPC (fun _ => False) (fun _ => True) (fun W => W.cell? ⟨b, 0, none⟩ = some (.pointer none)) (fun _ _ _ => False) (fun xs => xs = []) (fun _ => False) := by
  intro k l J Jx N0 W hJ hJx hV hT hNz hV0 hY h0
  refine callsIn_of_wp Try.func158 rfl trivial ?_ rfl
  simp only [Try.ntmps158, List.size_toArray, List.length_cons, List.length_nil, Nat.reduceAdd, Nat.reduceSub, Array.replicate_succ, Array.replicate_zero, List.push_toArray, List.append_toArray, List.nil_append, List.cons_append]
  have hb := hV _ _ _ h0
  have zb := cell_lt hb
  have HJ := Lib.hid hJ
  have H0 := Lib.hid h0
  clear hY hJ hJx hV h0 hT hV0 hNz
  gi_wp2_with (first
    | (refine ⟨trivial, (fun h => by simp [Fence.wide] at h), ?_⟩; gi_at_call 25; (with_reducible refine (callsIn_wide.2 ssize_nil).mono ?_); rintro e w2 ⟨rfl, hu2⟩)
    | (refine ⟨trivial, (fun h => by simp [Fence.wide] at h), ?_⟩; gi_at_call 26; (with_reducible refine (callsIn_wide.2 (cells_bad _ _ _ valid_zero)).mono ?_); rintro e w3 ⟨rfl, hu3⟩))
  have HJ3 := Lib.hid (HJ.out.up (HJ.out.up H0.out hu2) hu3)
  clear hu2 hu3 hb
  gi_loopw [3, 7] (fun _ i wr => i = .int .i64 0 ∧ J N0 [] wr) (fun _ i _ => 0)
  case atStart => exact ⟨rfl, HJ3.out⟩
  case round =>
    obtain ⟨rfl, hJs⟩ := hrel
    have HJS := Lib.hid hJs
    clear hJs
    gi_wp2
    go_end0
    exact ⟨⟨_, rfl⟩, .inl ⟨_, rfl, HJS.out⟩⟩
set_option maxRecDepth 100000 in
set_option maxHeartbeats 3200000 in
theorem lcells_nil {x : Int} {w : World} :
    Calls Try.prog 65 #[.pointer none, .int .i64 x] w fun e w' => e = .returned (.slice none 0 0) ∧ Up w w' := by
  refine (callsIn_wide (n := 9)).1 ?_
  refine callsIn_of_wp_marks Try.func65 rfl trivial ?_ rfl
  simp only [Try.ntmps65, List.size_toArray, List.length_cons, List.length_nil, Nat.reduceAdd, Nat.reduceSub, Array.replicate_succ, Array.replicate_zero, List.push_toArray, List.append_toArray, List.nil_append, List.cons_append]
  refine wpIn_wide.2 ?_
  go_wp2_with fail
  refine (all_val _ _).mono ?_
  rintro e w3 ⟨b2, rfl, hb2, hb2', hc2, -, hu3⟩
  simp at hb2
  obtain ⟨k2, f2⟩ := hu3.at_ (w.heap.size + 1) (by (try simp) <;> omega)
  have uw : Up w w3 := by (repeat (first | with_reducible exact Up.refl _ | with_reducible refine Up.alloc ?_ _ | with_reducible refine Up.drew ?_ | with_reducible refine Up.drewN ?_ _ | with_reducible refine Up.setCell ?_ (by (try simp) <;> omega) _ | with_reducible assumption | with_reducible refine Up.trans ?_ (by assumption)))
  have c2 : w3.cell? ⟨w.heap.size + 1, 0, none⟩ = some (.slice none 0 0) := (k2 0).trans (by simp [go_sem])
  have hzw := hu3.size
  simp at hzw
  have HU := Lib.hid uw
  have HC2 := Lib.hid hc2
  have HCO := Lib.hid c2
  clear k2 f2 hu3 uw hc2
  go_wp2_with fail
  clear c2
  refine wpIn_wide.1 (range_n (n := 9) (gf := 158) (lb := #[.pointer (some ⟨b2, 0, none⟩)]) rfl enters_all (all_nil (b := b2)) (fun _ => rfl)
    (fun _ => False) (fun k hk => hk.elim) (fun k hk => hk.elim) (fun _ _ => trivial)
    (fun N pre W => Up w3 W ∧ ∀ k, N k → w3.heap.size ≤ k) (fun c N xs W => False)
    (fun N N' s A A' h hk hn => ⟨h.1.keep hk h.2, fun k hk' => by rcases hn k hk' with h1 | h1; exact h.2 k h1; have := h.1.size; omega⟩) (fun _ _ _ _ _ _ h _ _ => h)
    (fun N pre W h => ((h.1.at_ b2 hb2').1 0).trans HC2.out) ⟨Up.refl _, fun k h => h.elim⟩
    (fun _ _ _ _ _ => False) (fun _ _ _ _ _ _ _ _ h _ _ => h) (fun _ _ _ _ _ _ _ _ hG _ => hG.elim) (fun _ _ _ _ _ _ _ _ _ _ h => h.elim) ?done (fun _ _ _ _ _ _ _ _ h _ _ => h.elim))
  case done =>
    rintro Dd N xs W hD hND hN0 hS ⟨hI, hN⟩ hK
    have h2 : W.cell? ⟨w.heap.size + 1, 0, none⟩ = some (.slice none 0 0) := ((hI.at_ _ (by omega)).1 0).trans HCO.out
    have HI := Lib.hid hI
    have HK := Lib.hid hK
    have HN := Lib.hid (hN _ hND)
    have zo := cell_lt h2
    clear hI hK hN hND
    go_wp2
    refine ⟨by simp, .inl ⟨_, _, rfl, run_takeDeferred HK.out, ?_⟩⟩
    exact ⟨_, results_tmp rfl _ _ _, rfl, HU.out.trans (HI.out.keep (keep_put (N := fun k => k = Dd) _ rfl) (fun i hi => by subst hi; exact HN.out))⟩
set_option maxRecDepth 100000 in
set_option maxHeartbeats 3200000 in
theorem diff_nil {v : Option Addr} {w : World} :
    Calls Try.prog 69 #[.pointer none, .pointer v] w fun e w' => e = .returned (.slice none 0 0) ∧ Up w w' := by
  refine (callsIn_wide (n := 9)).1 ?_
  refine callsIn_of_wp_marks Try.func69 rfl trivial ?_ rfl
  simp only [Try.ntmps69, List.size_toArray, List.length_cons, List.length_nil, Nat.reduceAdd, Nat.reduceSub, Array.replicate_succ, Array.replicate_zero, List.push_toArray, List.append_toArray, List.nil_append, List.cons_append]
  refine wpIn_wide.2 ?_
  go_wp2_with fail
  refine (all_val _ _).mono ?_
  rintro e w3 ⟨b2, rfl, hb2, hb2', hc2, -, hu3⟩
  simp at hb2
  obtain ⟨k2, f2⟩ := hu3.at_ (w.heap.size + 1 + 1) (by (try simp) <;> omega)
  have uw : Up w w3 := by (repeat (first | with_reducible exact Up.refl _ | with_reducible refine Up.alloc ?_ _ | with_reducible refine Up.drew ?_ | with_reducible refine Up.drewN ?_ _ | with_reducible refine Up.setCell ?_ (by (try simp) <;> omega) _ | with_reducible assumption | with_reducible refine Up.trans ?_ (by assumption)))
  have c2 : w3.cell? ⟨w.heap.size + 1 + 1, 0, none⟩ = some (.slice none 0 0) := (k2 0).trans (by simp [go_sem])
  have hzw := hu3.size
  simp at hzw
  have HU := Lib.hid uw
  have HC2 := Lib.hid hc2
  have HCO := Lib.hid c2
  clear k2 f2 hu3 uw hc2
  go_wp2_with fail
  clear c2
  refine wpIn_wide.1 (range_n (n := 9) (gf := 158) (lb := #[.pointer (some ⟨b2, 0, none⟩)]) rfl enters_all (all_nil (b := b2)) (fun _ => rfl)
    (fun _ => False) (fun k hk => hk.elim) (fun k hk => hk.elim) (fun _ _ => trivial)
    (fun N pre W => Up w3 W ∧ ∀ k, N k → w3.heap.size ≤ k) (fun c N xs W => False)
    (fun N N' s A A' h hk hn => ⟨h.1.keep hk h.2, fun k hk' => by rcases hn k hk' with h1 | h1; exact h.2 k h1; have := h.1.size; omega⟩) (fun _ _ _ _ _ _ h _ _ => h)
    (fun N pre W h => ((h.1.at_ b2 hb2').1 0).trans HC2.out) ⟨Up.refl _, fun k h => h.elim⟩
    (fun _ _ _ _ _ => False) (fun _ _ _ _ _ _ _ _ h _ _ => h) (fun _ _ _ _ _ _ _ _ hG _ => hG.elim) (fun _ _ _ _ _ _ _ _ _ _ h => h.elim) ?done (fun _ _ _ _ _ _ _ _ h _ _ => h.elim))
  case done =>
    rintro Dd N xs W hD hND hN0 hS ⟨hI, hN⟩ hK
    have h2 : W.cell? ⟨w.heap.size + 1 + 1, 0, none⟩ = some (.slice none 0 0) := ((hI.at_ _ (by omega)).1 0).trans HCO.out
    have HI := Lib.hid hI
    have HK := Lib.hid hK
    have HN := Lib.hid (hN _ hND)
    have zo := cell_lt h2
    clear hI hK hN hND
    go_wp2
    refine ⟨by simp, .inl ⟨_, _, rfl, run_takeDeferred HK.out, ?_⟩⟩
    exact ⟨_, results_tmp rfl _ _ _, rfl, HU.out.trans (HI.out.keep (keep_put (N := fun k => k = Dd) _ rfl) (fun i hi => by subst hi; exact HN.out))⟩
end Go.Proofs.Ytjokcfenncogkaa
