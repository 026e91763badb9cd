/-
  field's Unmodify. No condition.
-/
import Derived.Test.YtjokcfenncogkaaUnmod13
import Derived.Test.YtjokcfenncogkaaCollN
namespace Go.Proofs.Ytjokcfenncogkaa
open Go.RowKit Go.Shelf
set_option linter.unusedVariables false
set_option linter.unusedSimpArgs false
attribute [local go_sem] Oper.semAt_some

structure UnI (w : World) (X : Spc) (p g bb b2 : Nat) (N : Nat → Prop) (pre : List Int) (W : World) : Prop where
  s : SAt W p g (unmodL X pre)
  k : Keep (two p g) w W
  c1 : W.cell? ⟨bb, 0, none⟩ = some (.pointer (some ⟨p, 0, none⟩))
  c2 : W.cell? ⟨b2, 0, none⟩ = some (.pointer (some ⟨p, 0, none⟩))
  np : ¬ N p
  ng : ¬ N g
  n1 : ¬ N bb
  n2 : ¬ N b2
  nw : ∀ k, N k → w.heap.size ≤ k
theorem UnI.own {w : World} {X : Spc} {p g bb b2 : Nat} : Own2 (UnI w X p g bb b2) := by
  rintro N N' s W W' ⟨h1, h2, h3, h4, h5, h6, h7, h8, h9⟩ hk hn
  have z1 := cell_lt h3
  have z2 := cell_lt h4
  simp only at z1 z2
  have zp := h1.lt
  have zg := h1.cells.2.1
  have no : ∀ k, k < W.heap.size → ¬ N k → ¬ N' k := fun k hk hN h => by
    rcases hn _ h with h | h
    · exact hN h
    · omega
  exact ⟨h1.held hk h5 h6, h2.past2 hk (fun k h => .inl (h9 k h)), ((hk.at_ bb z1 h7).1 0).trans h3, ((hk.at_ b2 z2 h8).1 0).trans h4, no _ zp h5, no _ zg h6, no _ z1 h7, no _ z2 h8, fun k h => by
    rcases hn _ h with h | h
    · exact h9 k h
    · have := h2.size; omega⟩
set_option maxRecDepth 100000 in
set_option maxHeartbeats 6400000 in
theorem funmodify_is {p g : Nat} {X : Spc} {w : World} (hs : SAt w p g X) (ok : X.Ok) :
    Calls Try.prog 87 #[.pointer (some ⟨p, 0, none⟩)] w fun e w' => e = .returned (.tuple #[]) ∧ SAt w' p g X.unmodify ∧ Keep (two p g) w w' := by
  have HS := Lib.hid hs
  have HO := Lib.hid ok
  have zp := hs.lt
  have zg := hs.cells.2.1
  have HUL := Lib.hid (fun l => unmodL_ok ok l)
  have hsm := ok.small
  obtain ⟨m, hm⟩ : ∃ m, X.L.length = m := ⟨_, rfl⟩
  have HM := Lib.hid hm
  rw [hm] at hsm HUL
  clear hs ok hm
  refine (callsIn_wide (n := 9)).1 ?_
  refine callsIn_of_wp_marks Try.func87 rfl trivial ?_ rfl
  simp only [Try.ntmps87, List.size_toArray, List.length_cons, List.length_nil, Nat.reduceAdd, Nat.reduceSub, Array.replicate_succ, Array.replicate_zero, List.push_toArray, List.append_toArray, List.nil_append, List.cons_append]
  refine wpIn_wide.2 ?_
  go_wp2_with fail
  refine (attrs_val _ _).mono ?_
  rintro e w3 ⟨b2, rfl, hb2, hb2', hc2, -, hu3⟩
  simp at hb2
  have c1 : w3.cell? ⟨w.heap.size, 0, none⟩ = some (.pointer (some ⟨p, 0, none⟩)) := ((hu3.at_ w.heap.size (by simp)).1 0).trans (by simp [go_sem])
  have uw : Up w w3 := by (repeat (first | with_reducible exact Up.refl _ | with_reducible refine Up.alloc ?_ _ | with_reducible refine Up.drew ?_ | with_reducible refine Up.drewN ?_ _ | with_reducible refine Up.setCell ?_ (by (try simp) <;> omega) _ | with_reducible assumption | with_reducible refine Up.trans ?_ (by assumption)))
  have HI0 := Lib.hid (show UnI w X p g w.heap.size b2 (fun _ => False) [] w3 from ⟨HS.out.up uw, Keep.of_up uw, c1, hc2, fun h => h, fun h => h, fun h => h, fun h => h, fun k h => h.elim⟩)
  clear hu3 uw c1 hc2
  go_wp2_with fail
  refine wpIn_wide.1 (range_n (n := 9) (gf := 157) (lb := #[.pointer (some ⟨b2, 0, none⟩)]) rfl enters_attrs (attrs_it (p := p) (m := m) (b := b2) (f := isAt X.L) (Q := fun Y => HasAt (isAt X.L) m Y) (fun _ h => h)) (fun _ => rfl)
    (fun _ => False) (fun k hk => hk.elim) (fun k hk => hk.elim) (fun _ _ => trivial)
    (UnI w X p g w.heap.size b2) (fun _ _ _ _ => False) UnI.own (fun _ _ _ _ _ _ h _ _ => h) ?see HI0.out
    (fun pre x a' N W' => pre ++ [x] <+: those (isAt X.L) m ∧ a' = { tmps := #[.pointer (some ⟨p, 0, none⟩), .pointer (some ⟨w.heap.size, 0, none⟩), .int .i64 x, undef, .pointer (some ⟨p, 0, none⟩), .func (.func 157) #[] #[.pointer (some ⟨b2, 0, none⟩)], .int .i64 x, undef, undef, undef, undef, undef, undef, undef, undef, undef, undef, undef], defers := [] })
    (fun _ _ _ _ _ _ _ _ h _ _ => h) ?assign ?body ?done (fun _ _ _ _ _ _ _ _ _ h _ => h.elim))
  case see =>
    rintro N pre W hI
    obtain ⟨u1, u2, u3, u4, u5⟩ := HUL.out pre
    exact ⟨g, _, hI.s, u1, u2, fun k hk => by rw [← Spc.isA_nat u1 (by omega), u5, Spc.isA_nat HO.out (by rw [HM.out]; exact hk)], hI.c2⟩
  case assign =>
    rintro l N pre x W K hz hI hG hK
    have HI := Lib.hid hI
    have HG := Lib.hid hG
    clear hI hG
    gi_wp2
    exact hK _ _ (Held.refl _ _) HI.out ⟨HG.out, by simp⟩
  case body =>
    rintro l N pre x a' W hl hr hz hI ⟨hG, rfl⟩
    have HI := Lib.hid hI
    have HZ := Lib.hid hz
    have hmem : x ∈ those (isAt X.L) m := hG.subset (by simp)
    obtain ⟨k, rfl, hk, -⟩ := mem_those.1 hmem
    obtain ⟨u1, u2, u3, u4, u5⟩ := HUL.out pre
    have HST := Lib.hid (unmodL_snoc X pre (k : Int))
    obtain ⟨Y, hY⟩ : ∃ Y, unmodL X pre = Y := ⟨_, rfl⟩
    rw [hY] at HST u1
    have hsY := hI.s
    rw [hY] at hsY
    obtain ⟨d, hd⟩ : ∃ d, Y.at_ (k : Int) = d := ⟨_, rfl⟩
    rw [hd] at HST
    have hwf := u1.at_wf (k : Int)
    rw [hd] at hwf
    have hcw := Cl.clean_wf hwf
    have HOY := Lib.hid u1
    have HSY := Lib.hid hsY
    have HAT := Lib.hid (sat_op (k : Int) hsY u1 hd)
    have HSE := Lib.hid (fun W (h' : SAt W p g Y) => sset_op (w := W) (k : Int) (d := d.clean) rfl hcw h' HOY.out HST.out.symm)
    have c1 := hI.c1
    have z1 := cell_lt c1
    simp only at z1
    clear hI hz hG hr hl hmem u1 u2 u3 u4 u5 hY hsY hd hwf hcw
    obtain ⟨dch, da, dfa, dhi, dco, dse⟩ := d
    simp only [Cl.clean] at HSE HAT
    gi_wp2_with (first
      | (refine ⟨trivial, ?_⟩; gi_at_call 27; (with_reducible refine (CallsIn.inRound _ (callsIn_wide.2 HAT.out)).mono ?_); rintro e w9 ⟨rfl, hu9⟩; have c9 := ((hu9.at_ w.heap.size z1).1 0).trans c1; have z9 : w.heap.size < w9.heap.size := (by have := hu9.size; omega); have HU9 := Lib.hid hu9; clear hu9)
      | (refine ⟨trivial, ?_⟩; gi_at_call 28; (with_reducible refine (CallsIn.inRound _ (callsIn_wide.2 (HSE.out _ (HSY.out.up (HU9.out.alloc _))))).mono ?_); rintro e w10 ⟨rfl, hs10, hk10⟩; have HS10 := Lib.hid hs10; have HK10 := Lib.hid hk10; clear hs10 hk10))
    have h := HI.out
    have hK := (Keep.of_up (HU9.out.alloc _)).trans HK10.out
    have zb2 := cell_lt h.c2
    simp only at zb2
    have zpw := h.s.lt
    have zgw := h.s.cells.2.1
    have hpb : w.heap.size ≠ p ∧ w.heap.size ≠ g ∧ b2 ≠ p ∧ b2 ≠ g := by
      refine ⟨by omega, by omega, by omega, by omega⟩
    have ne1 : ∀ k, two p g k → k ≠ w.heap.size := fun k hk => by rcases hk with rfl | rfl <;> omega
    have ne2 : ∀ k, two p g k → k ≠ b2 := fun k hk => by rcases hk with rfl | rfl <;> omega
    refine ⟨Held.of_keep hK (fun k hk => ⟨HZ.out k hk, fun e => by rcases e with rfl | rfl; exact h.np hk; exact h.ng hk⟩), HS10.out, h.k.trans hK, ((hK.at_ _ z1 (fun e => ne1 _ e rfl)).1 0).trans h.c1, ((hK.at_ _ zb2 (fun e => ne2 _ e rfl)).1 0).trans h.c2, h.np, h.ng, h.n1, h.n2, h.nw⟩
  case done =>
    rintro Dd N xs W hD hND hN0 hS hI hK
    have HI := Lib.hid hI
    have HK := Lib.hid hK
    have HND := Lib.hid hND
    have HSS := Lib.hid hS
    clear hI hK hND hS
    go_wp2
    refine ⟨by simp, .inl ⟨_, _, rfl, run_takeDeferred HK.out, ?_⟩⟩
    have hfin := UnI.own N N _ W (W.putObj Dd (.deferred none)) HI.out (keep_put _ HND.out) (fun k hk => .inl hk)
    have hs := hfin.s
    rw [HSS.out] at hs
    refine ⟨_, results_none rfl _ _ _, rfl, ?_, hfin.k⟩
    unfold Spc.unmodify Spc.attrs
    rw [HM.out]
    exact hs
end Go.Proofs.Ytjokcfenncogkaa
