/-
  field's Length. No condition.
-/
import Derived.Test.YtjokcfenncogkaaPlaces13
namespace Go.Proofs.Ytjokcfenncogkaa
open Go.RowKit Go.Shelf
set_option linter.unusedVariables false
set_option linter.unusedSimpArgs false
attribute [local go_sem] Oper.semAt_some

theorem places_len {X : Spc} (ok : X.Ok) (a : Int) : (X.places a).length < X.L.length := by
  have := ok.big
  unfold Spc.places
  by_cases h : X.isA a = true
  · rw [if_pos h, stepsL_len]
    exact (cnt_is ok h).1
  · rw [if_neg h]; simp; omega
/-- blocks from B on are new, the box b with p, and what is to be kept of the rest -/
structure InP (w : World) (p b : Nat) (N : Nat → Prop) (W : World) : Prop where
  up : Up w W
  hb : W.cell? ⟨b, 0, none⟩ = some (.pointer (some ⟨p, 0, none⟩))
  nb : ¬ N b
  nw : ∀ k, N k → w.heap.size ≤ k
theorem InP.own {β : Type} {w : World} {p b : Nat} : Own2 (fun N (_ : β) W => InP w p b N W) := by
  rintro N N' s W W' ⟨h1, h2, h3, h4⟩ hk hn
  have z := cell_lt h2
  refine ⟨h1.keep hk h4, ((hk.at_ b z h3).1 0).trans h2, fun h => ?_, fun k h => ?_⟩
  · rcases hn _ h with h | h
    · exact h3 h
    · have : b < W.heap.size := z; omega
  · rcases hn _ h with h | h
    · exact h4 k h
    · have := h1.size; omega
theorem InP.see {w W : World} {p b g : Nat} {N : Nat → Prop} {X : Spc} (h : InP w p b N W) (hs : SAt w p g X) (ok : X.Ok) : SeeP X p b W := ⟨g, X, hs.up h.up, ok, Alike.refl X, h.hb⟩
set_option maxRecDepth 100000 in
set_option maxHeartbeats 6400000 in
theorem flength_is {p g : Nat} {X : Spc} {w : World} (a : Int) (hs : SAt w p g X) (ok : X.Ok) :
    Calls Try.prog 76 #[.pointer (some ⟨p, 0, none⟩), .int .i64 a] w fun e w' => e = .returned (.int .i64 (X.places a).length) ∧ Up w w' := by
  have HS := Lib.hid hs
  have HO := Lib.hid ok
  have hpl := places_len ok a
  have hsm := ok.small
  clear hs ok
  refine (callsIn_wide (n := 9)).1 ?_
  refine callsIn_of_wp_marks Try.func76 rfl trivial ?_ rfl
  simp only [Try.ntmps76, List.size_toArray, List.length_cons, List.length_nil, Nat.reduceAdd, Nat.reduceSub, Array.replicate_succ, Array.replicate_zero, List.push_toArray, List.append_toArray, List.nil_append, List.cons_append]
  refine wpIn_wide.2 ?_
  go_wp2_with fail
  refine (places_val _ _ _).mono ?_
  rintro e w3 ⟨b, b2, rfl, hb, hb2, hz, hcb, hcb2, hfb2, hu3⟩
  simp at hb hb2 hz
  obtain ⟨k1, f1⟩ := hu3.at_ w.heap.size (by simp)
  have uw : Up w w3 := by (repeat (first | with_reducible exact Up.refl _ | with_reducible refine Up.alloc ?_ _ | with_reducible refine Up.drew ?_ | with_reducible refine Up.drewN ?_ _ | with_reducible refine Up.setCell ?_ (by (try simp) <;> omega) _ | with_reducible assumption | with_reducible refine Up.trans ?_ (by assumption)))
  have c1 : w3.cell? ⟨w.heap.size, 0, none⟩ = some (.int .i64 ((0 : Nat) : Int)) := (k1 0).trans (by simp [go_sem])
  have g1 : w3.frozen? ⟨w.heap.size, 0, none⟩ = false := (f1 0).trans (by simp [go_sem])
  have HU := Lib.hid uw
  have HB := Lib.hid (show b = w.heap.size + 1 ∧ b2 = w.heap.size + 1 + 1 ∧ w3.heap.size = w.heap.size + 1 + 2 from ⟨hb, hb2, hz⟩)
  clear k1 f1 hu3 uw hb hb2 hz
  go_wp2_with fail
  obtain ⟨hb, hb2, hz⟩ := HB.out
  refine wpIn_wide.1 (range_n (n := 9) (gf := 130) (lb := #[.pointer (some ⟨b, 0, none⟩), .pointer (some ⟨b2, 0, none⟩)]) rfl enters_places (places_it HO.out (p := p) (b := b) (b2 := b2) (a := a)) (fun _ => rfl)
    (fun k => k = b2) (fun k hk => by omega) (fun k hk => hk) (fun W hu => ⟨((hu.at_ b2 (by omega)).1 0).trans hcb2, ((hu.at_ b2 (by omega)).2 0).trans hfb2⟩)
    (fun N pre W => InP w p b N W ∧ W.cell? ⟨w.heap.size, 0, none⟩ = some (.int .i64 (pre.length : Int)) ∧ W.frozen? ⟨w.heap.size, 0, none⟩ = false ∧ ¬ N w.heap.size) (fun _ _ _ _ => False)
    ?ownx (fun _ _ _ _ _ _ h _ _ => h) (fun N pre W h => h.1.see HS.out HO.out) ⟨⟨HU.out, hcb, by omega, by omega⟩, c1, g1, by omega⟩
    (fun pre x a' N W' => pre ++ [x] <+: X.places a ∧ a' = { tmps := #[.pointer (some ⟨p, 0, none⟩), .int .i64 a, undef, undef, .int .i64 0, .pointer (some ⟨w.heap.size, 0, none⟩), .pointer (some ⟨p, 0, none⟩), .int .i64 a, .func (.func 130) #[] #[.pointer (some ⟨b, 0, none⟩), .pointer (some ⟨b2, 0, none⟩)], .int .i64 x, undef, undef, undef], defers := [] })
    (fun _ _ _ _ _ _ _ _ h _ _ => h) ?assign ?body ?done (fun _ _ _ _ _ _ _ _ _ h _ => h.elim))
  case ownx =>
    rintro N N' s A A' ⟨h, h1, h2, h3⟩ hk hn
    have z := cell_lt h1
    refine ⟨InP.own (β := Unit) N N' () A A' h hk hn, ((hk.at_ _ z h3).1 0).trans h1, ((hk.at_ _ z h3).2 0).trans h2, fun h => ?_⟩
    rcases hn _ h with h | h
    · exact h3 h
    · have : w.heap.size < A.heap.size := z; omega
  case assign =>
    rintro l N pre x W K hz hI hG hK
    gi_wp2
    exact hK _ _ (Held.refl _ _) hI ⟨hG, by simp⟩
  case body =>
    rintro l N pre x a' W hl hr hz ⟨hI, h1, h2, h3⟩ ⟨hG, rfl⟩
    have hlen : pre.length + 1 ≤ (X.places a).length := by have := hG.length_le; simpa using this
    have HI := Lib.hid hI
    have HZ := Lib.hid hz
    have z := cell_lt h1
    simp only at z
    clear hI hz hG hr hl
    gi_wp2
    exact ⟨fun k hk => Below.heap_setCell W ⟨w.heap.size, 0, none⟩ _ k (fun e => h3 (by simp only at e; subst e; exact hk)),
      ⟨HI.out.up.setCell (by simp) _, (World.cell?_setCell_other _ _ _ _ (by simp <;> omega)).trans HI.out.hb, HI.out.nb, HI.out.nw⟩,
      by rw [List.length_append]; exact World.cell?_setCell_same (h := h1) .., by rw [World.frozen?_setCell]; exact h2, h3⟩
  case done =>
    rintro Dd N xs W hD hND hN0 hS ⟨hI, h1, h2, h3⟩ hK
    obtain rfl := hS
    have HI := Lib.hid hI
    have HK := Lib.hid hK
    clear hI hK
    go_wp2
    refine ⟨by simp, .inl ⟨_, _, rfl, run_takeDeferred HK.out, ?_⟩⟩
    exact ⟨_, results_tmp rfl _ _ _, rfl, HI.out.up.keep (keep_put (N := fun k => k = Dd) _ rfl) (fun i hi => by subst hi; exact HI.out.nw _ hND)⟩
end Go.Proofs.Ytjokcfenncogkaa
