/-
  field's Modified as an iterator; what Collect makes of it. No condition.
-/
import Derived.Test.YtjokcfenncogkaaFields13
import Derived.Test.YtjokcfenncogkaaCollN
namespace Go.Proofs.Ytjokcfenncogkaa
open Go.RowKit Go.Shelf
set_option linter.unusedVariables false
set_option linter.unusedSimpArgs false
attribute [local go_sem] Oper.semAt_some

theorem enters_modified13 : ∀ args w, (callFunc 132 args).run Try.prog w = .ok (.enter 132 args) w := enters_of Try.func132 (by kernel_rfl) rfl
theorem modified_val13 (v : Option Addr) (w : World) :
    Calls Try.prog 85 #[.pointer v] w fun e w' => ∃ b, e = .returned (.func (.func 132) #[] #[.pointer (some ⟨b, 0, none⟩)]) ∧ w.heap.size ≤ b ∧ b < w'.heap.size ∧ w'.cell? ⟨b, 0, none⟩ = some (.pointer v) ∧ w'.frozen? ⟨b, 0, none⟩ = false ∧ Up w w' := by
  go_enter Try.func85, Try.ntmps85
  go_wp2
  go_ret
  exact ⟨w.heap.size, rfl, Nat.le_refl _, by simp, by simp [go_sem], by simp [go_sem], by (repeat (first | with_reducible exact Up.refl _ | with_reducible refine Up.alloc ?_ _ | with_reducible refine Up.drew ?_ | with_reducible refine Up.drewN ?_ _ | with_reducible refine Up.setCell ?_ (by (try simp) <;> omega) _ | with_reducible assumption | with_reducible refine Up.trans ?_ (by assumption)))⟩
/-- how the inner loop stands -/
structure MdI (J : (Nat → Prop) → List Int → World → Prop) (hx : Int → Bool) (p b1 b2 : Nat) (l : Nat) (N : Nat → Prop) (pre : List (Int × Int)) (W : World) : Prop where
  j : J (fun k => N k ∨ k = b1 ∨ k = b2) ((pre.map (·.1)).filter hx) W
  c1 : W.cell? ⟨b1, 0, none⟩ = some (.func (.yield l) #[] #[])
  c2 : W.cell? ⟨b2, 0, none⟩ = some (.pointer (some ⟨p, 0, none⟩))
  n1 : ¬ N b1
  n2 : ¬ N b2
theorem MdI.own {J : (Nat → Prop) → List Int → World → Prop} {hx : Int → Bool} {p b1 b2 l : Nat} (hJ : Own2 J) : Own2 (MdI J hx p b1 b2 l) := by
  rintro N N' s W W' ⟨h1, h2, h3, h4, h5⟩ hk hn
  have z1 := cell_lt h2
  have z2 := cell_lt h3
  refine ⟨hJ _ _ _ _ _ h1 (hk.mono fun k h => .inl h) ?_, ((hk.at_ b1 z1 h4).1 0).trans h2, ((hk.at_ b2 z2 h5).1 0).trans h3, fun h => ?_, fun h => ?_⟩
  · rintro k (h | h | h)
    · rcases hn k h with h | h
      · exact .inl (.inl h)
      · exact .inr h
    · exact .inl (.inr (.inl h))
    · exact .inl (.inr (.inr h))
  · rcases hn _ h with h | h
    · exact h4 h
    · have : b1 < W.heap.size := z1; omega
  · rcases hn _ h with h | h
    · exact h5 h
    · have : b2 < W.heap.size := z2; omega
theorem filter_snoc (hx : Int → Bool) (pre : List (Int × Int)) (y : Int × Int) : ((pre ++ [y]).map (·.1)).filter hx = if hx y.1 then (pre.map (·.1)).filter hx ++ [y.1] else (pre.map (·.1)).filter hx := by
  rw [List.map_append, List.filter_append]
  by_cases h : hx y.1 = true
  · rw [if_pos h]; simp [h]
  · rw [if_neg h]; simp [h]

set_option maxRecDepth 100000 in
set_option maxHeartbeats 6400000 in
theorem modified_it {p m b : Nat} {f : Nat → Bool} {hx : Int → Bool} {Q : Spc → Prop} (hQ : ∀ X, Q X → HasAt f m X ∧ ∀ k : Nat, k < m → fM (X.at_ (k : Int)).fa = hx (k : Int)) : ItN Try.prog 132 #[.pointer (some ⟨b, 0, none⟩)] (fun x : Int => #[.int .i64 x]) (fun _ => False) (fun _ => True) (SeeS p m b Q) (fun pre x _ => pre ++ [x] <+: (those f m).filter hx) (· = (those f m).filter hx) (· <+: (those f m).filter hx) := by
  intro k l J Jx N0 W hJ hJx hV hT hNz hV0 hY h0
  refine callsIn_of_wp_marks Try.func132 rfl trivial ?_ rfl
  simp only [Try.ntmps132, List.size_toArray, List.length_cons, List.length_nil, Nat.reduceAdd, Nat.reduceSub, Array.replicate_succ, Array.replicate_zero, List.push_toArray, List.append_toArray, List.nil_append, List.cons_append]
  obtain ⟨g, X, hs, ok, hm, hq, hb⟩ := hV _ _ _ h0
  have zb := cell_lt hb
  have HY := Lib.hid hY
  have HJ := Lib.hid hJ
  have HJx := Lib.hid hJx
  have HVV := Lib.hid hV
  have H0 := Lib.hid h0
  clear hY hJ hJx hV h0 hT hV0 hs ok hm hq
  refine wpIn_wide.2 ?_
  go_wp2_with fail
  refine (fields_val13 _ _).mono ?_
  rintro e w3 ⟨b2, rfl, hb2, hb2', hc2, -, hu3⟩
  simp at hb2
  have c1 : w3.cell? ⟨W.heap.size, 0, none⟩ = some (.func (.yield l) #[] #[]) := ((hu3.at_ W.heap.size (by simp)).1 0).trans (by simp [go_sem])
  have hUW := ((Up.refl W).alloc (.cells #[.func (.yield l) #[] #[]] 106)).trans hu3
  have HI0 := Lib.hid (show MdI J hx p W.heap.size b2 l N0 [] w3 from ⟨HJ.out _ _ _ _ _ H0.out (Keep.of_up hUW) (fun k hk => by rcases hk with h | h | h; exact .inl h; exact .inr (by have := hu3.size; simp at this; omega); exact .inr (by omega)), c1, hc2, fun h => by have := hNz _ h; omega, fun h => by have := hNz _ h; omega⟩)
  clear hu3 hUW c1 hc2
  go_wp2_with fail
  refine wpIn_wide.1 (range_n (n := k) (gf := 129) (lb := #[.pointer (some ⟨b2, 0, none⟩)]) rfl enters_fields13 (fields_it (p := p) (m := m) (b := b2) (f := f) (Q := Q) (fun X h => (hQ X h).1)) (fun _ => rfl)
    N0 (fun k hk => by have := hNz k hk; omega) (fun k hk => hk.elim) (fun _ _ => trivial)
    (MdI J hx p W.heap.size b2 l) (fun c N xs W' => match c with | .ret => ((xs.map (·.1)).filter hx <+: (those f m).filter hx) ∧ Jx N ((xs.map (·.1)).filter hx) W' | _ => False)
    (MdI.own HJ.out) ?ownx ?see HI0.out
    (fun pre x a' N W' => pre.map (·.1) ++ [x.1] <+: those f m ∧ fM x.2 = hx x.1 ∧ ∃ bx, a' = { tmps := #[.func (.yield l) #[] #[], .pointer (some ⟨b, 0, none⟩), .pointer (some ⟨W.heap.size, 0, none⟩), .int .i64 x.1, .pointer (some ⟨bx, 0, none⟩), .pointer (some ⟨p, 0, none⟩), .func (.func 129) #[] #[.pointer (some ⟨b2, 0, none⟩)], .int .i64 x.1, .agg #[.bool (fP x.2), .bool (fN x.2), .int .i64 (fD x.2), .bool (fM x.2)], undef, undef, undef, undef, undef, undef, undef, undef], defers := [] } ∧
      W'.cell? ⟨bx, 3, none⟩ = some (.bool (fM x.2)) ∧ ¬ N bx)
    ?ownax ?assign ?body ?done ?stop)
  case ownx =>
    intro c N N' xs A A' h hk hn
    cases c
    case ret => exact ⟨h.1, HJx.out _ _ _ _ _ h.2 hk hn⟩
    all_goals exact h.elim
  case see =>
    rintro N pre A ⟨h1, h2, h3, h4, h5⟩
    obtain ⟨g', X', a1, a2, a3, a4, a5⟩ := HVV.out _ _ _ h1
    exact ⟨g', X', a1, a2, a3, a4, h3⟩
  case ownax =>
    rintro pre x a' N N' _ A A' ⟨h1, h2, bx, h4, h5, h6⟩ hk hn
    have zx := cell_lt h5
    exact ⟨h1, h2, bx, h4, ((hk.at_ bx zx h6).1 3).trans h5, fun h => by
      rcases hn _ h with h | h
      · exact h6 h
      · have : bx < A.heap.size := zx; omega⟩
  case assign =>
    rintro ll N pre ⟨x, fa⟩ A K hz hI hG hK
    obtain ⟨g', X', a1, a2, a3, a4, a5⟩ := HVV.out _ _ _ hI.j
    have hmem : x ∈ those f m := hG.1.subset (by simp)
    obtain ⟨kx, rfl, hkx, -⟩ := mem_those.1 hmem
    have hfa := hG.2 g' X' a1 a2 a3
    have hfm := (hQ X' a4).2 kx hkx
    simp only at hfa
    rw [hfa] at hfm
    have HI := Lib.hid hI
    have HN := Lib.hid hz
    have HG := Lib.hid hG.1
    have HFM := Lib.hid hfm
    clear hI hz hG a1 a2 a3 a4 a5 hmem hfa hfm
    simp only [encF]
    gi_wp2
    refine hK _ _ (Held.of_up (show Up A _ by (repeat (first | with_reducible exact Up.refl _ | with_reducible refine Up.alloc ?_ _ | with_reducible refine Up.drew ?_ | with_reducible refine Up.drewN ?_ _ | with_reducible refine Up.setCell ?_ (by (try simp) <;> omega) _ | with_reducible assumption | with_reducible refine Up.trans ?_ (by assumption)))) HN.out) ((MdI.own HJ.out).up HI.out (by (repeat (first | with_reducible exact Up.refl _ | with_reducible refine Up.alloc ?_ _ | with_reducible refine Up.drew ?_ | with_reducible refine Up.drewN ?_ _ | with_reducible refine Up.setCell ?_ (by (try simp) <;> omega) _ | with_reducible assumption | with_reducible refine Up.trans ?_ (by assumption))))) ⟨HG.out, HFM.out, A.heap.size, rfl, by simp [go_sem], fun h => by have := HN.out _ h; omega⟩
  case body =>
    rintro ll N pre ⟨x, fa⟩ a' A hl hr hz hI ⟨hG, hfm, bx, rfl, hbx, hbn⟩
    have HI := Lib.hid hI
    have HN := Lib.hid hz
    have zx := cell_lt hbx
    simp only at hG hfm hbx zx
    have k1 := hI.c1
    have z1 := cell_lt k1
    simp only at z1
    have HP := Lib.hid (show ((pre ++ [(x, fa)]).map (·.1)).filter hx <+: (those f m).filter hx from by
      rw [List.map_append]; exact hG.filter hx)
    clear hI hz hr hl hG
    have HFS := Lib.hid (filter_snoc hx pre (x, fa))
    generalize fP fa = v0 at *
    generalize fN fa = v1 at *
    generalize fD fa = v2 at *
    obtain ⟨b3, hb3⟩ : ∃ b3, fM fa = b3 := ⟨_, rfl⟩
    rw [hb3] at hfm hbx ⊢
    clear hb3
    have HFM := Lib.hid hfm
    clear hfm
    cases b3
    · have HE := Lib.hid (show ((pre ++ [(x, fa)]).map (·.1)).filter hx = (pre.map (·.1)).filter hx by rw [HFS.out, if_neg (by simp only; rw [← HFM.out]; simp)])
      gi_wp2
      refine ⟨fun _ h => (by cases h), ?_⟩
      gi_wp2
      refine ⟨Held.refl _ _, ?_⟩
      have h := HI.out
      refine ⟨?_, h.c1, h.c2, h.n1, h.n2⟩
      rw [HE.out]
      exact h.j
    · have HE := Lib.hid (show ((pre ++ [(x, fa)]).map (·.1)).filter hx = (pre.map (·.1)).filter hx ++ [x] by rw [HFS.out, if_pos (by simp only; rw [← HFM.out])])
      have hP := HP.out
      rw [HE.out] at hP
      obtain ⟨fn, tmps, assign, body, hy, hR⟩ := YieldAt.any (m' := k - 1 - 1 - 1) (HY.out _ _ x A HI.out.j hP)
      have HRR := Lib.hid hR
      clear hR hP
      gi_wp2
      refine ⟨fun h => by simp [Fence.wide, Fence.inRound] at h, ?_⟩
      refine (RoundIn.inR HRR.out).mono ?_
      rintro e A' (⟨rfl, hJ', hh⟩ | ⟨rfl, hJ', hh⟩)
      · have HJ' := Lib.hid hJ'
        have HH := Lib.hid hh
        clear hJ' hh hy
        gi_wp2
        refine ⟨HH.out.mono fun k h => .inl h, ?_⟩
        have h := HI.out
        have e1 : A'.heap[W.heap.size]? = A.heap[W.heap.size]? := HH.out _ (.inr (.inl rfl))
        have e2 : A'.heap[b2]? = A.heap[b2]? := HH.out _ (.inr (.inr rfl))
        refine ⟨?_, (World.cell?_of_block (a := ⟨W.heap.size, 0, none⟩) e1).trans h.c1, (World.cell?_of_block (a := ⟨b2, 0, none⟩) e2).trans h.c2, h.n1, h.n2⟩
        rw [HE.out]
        exact HJ'.out
      · have HJ' := Lib.hid hJ'
        have HH := Lib.hid hh
        clear hJ' hh hy
        gi_wp2
        refine ⟨HH.out.mono fun k h => .inl h, HP.out, ?_⟩
        rw [HE.out]
        exact HJx.out.less HJ'.out fun k h => .inl h
  case done =>
    rintro Dd N xs A hD hND hN0 hS hI hK
    have HI := Lib.hid hI
    have HS := Lib.hid hS
    have HK := Lib.hid hK
    have HN0 := Lib.hid hN0
    have HND := Lib.hid hND
    clear hI hS hK hN0 hND
    go_wp2
    refine ⟨by simp, .inl ⟨_, _, rfl, run_takeDeferred HK.out, ?_⟩⟩
    have h := HI.out.j
    rw [HS.out] at h
    exact ⟨_, results_none rfl _ _ _, ⟨_, rfl⟩, .inl ⟨_, rfl, HJ.out.less (HJ.out _ _ _ _ _ h (keep_put _ (.inl HND.out)) (fun k hk => .inl hk)) (fun k hk => .inl (HN0.out k hk))⟩⟩
  case stop =>
    rintro Dd N c pre A hD hND hN0 hSp hIx hK
    cases c
    case ret =>
      refine wpIn_wide.2 ?_
      have HI := Lib.hid hIx
      have HK := Lib.hid hK
      have HN0 := Lib.hid hN0
      have HND := Lib.hid hND
      clear hIx hK hN0 hND
      go_wp2
      refine ⟨by simp, .inl ⟨_, _, rfl, run_takeDeferred HK.out, ?_⟩⟩
      exact ⟨_, results_none rfl _ _ _, ⟨_, rfl⟩, .inr ⟨_, HI.out.1, HJx.out.less (HJx.out _ _ _ _ _ HI.out.2 (keep_put _ HND.out) (fun k hk => .inl hk)) (fun k hk => HN0.out k hk)⟩⟩
    all_goals exact hIx.elim
/-- the places of those that are modified -/
def Spc.modified (X : Spc) : List Int := X.attrs.filter fun a => fM (X.at_ a).fa
theorem collect_modified {p g b : Nat} {X : Spc} {w : World} (hs : SAt w p g X) (ok : X.Ok) (hb : w.cell? ⟨b, 0, none⟩ = some (.pointer (some ⟨p, 0, none⟩))) :
    Calls Try.prog 55 #[.func (.func 132) #[] #[.pointer (some ⟨b, 0, none⟩)]] w fun e w' => ∃ A c, e = .returned (.slice A X.modified.length c) ∧ OwnI w.heap.size w' A X.modified.length c X.modified ∧ Up w w' := by
  have hsm := ok.small
  have hl := those_len (isAt X.L) X.L.length
  have hl2 : X.modified.length ≤ X.attrs.length := List.length_filter_le _ _
  have hl3 : X.attrs.length ≤ X.L.length := hl
  refine (collect_n X.modified enters_modified13 (by omega) (modified_it (p := p) (m := X.L.length) (b := b) (f := isAt X.L) (hx := fun a => fM (X.at_ a).fa) (Q := fun Y => Y = X) (fun Y hY => by subst hY; exact ⟨fun k _ => rfl, fun k _ => rfl⟩)) (fun k h => h.elim) (fun _ _ => trivial)
    (fun W hk => ⟨g, X, hs.held hk (fun h => h) (fun h => h), ok, rfl, rfl, ((hk.at_ b (cell_lt hb) (fun h => h)).1 0).trans hb⟩) (fun _ _ _ h => h) (fun _ h => h)).mono ?_
  rintro e w' ⟨A, c, rfl, h1, h2⟩
  exact ⟨A, c, rfl, h1, h2.upto (fun i hi => hi.elim)⟩
end Go.Proofs.Ytjokcfenncogkaa
