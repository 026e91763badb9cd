/-
  field's Fields as an iterator. No condition.
-/
import Derived.Test.YtjokcfenncogkaaPlaces13
import Derived.Test.YtjokcfenncogkaaMixIn
namespace Go.Proofs.Ytjokcfenncogkaa
open Go.RowKit Go.Shelf
set_option linter.unusedVariables false
set_option linter.unusedSimpArgs false
attribute [local go_sem] Oper.semAt_some

theorem enters_fields13 : ∀ args w, (callFunc 129 args).run Try.prog w = .ok (.enter 129 args) w := enters_of Try.func129 (by kernel_rfl) rfl
theorem fields_val13 (v : Option Addr) (w : World) :
    Calls Try.prog 73 #[.pointer v] w fun e w' => ∃ b, e = .returned (.func (.func 129) #[] #[.pointer (some ⟨b, 0, none⟩)]) ∧ w.heap.size ≤ b ∧ b < w'.heap.size ∧ w'.cell? ⟨b, 0, none⟩ = some (.pointer v) ∧ w'.frozen? ⟨b, 0, none⟩ = false ∧ Up w w' := by
  go_enter Try.func73, Try.ntmps73
  go_wp2
  go_ret
  exact ⟨w.heap.size, rfl, Nat.le_refl _, by simp, by simp [go_sem], by simp [go_sem], by (repeat (first | with_reducible exact Up.refl _ | with_reducible refine Up.alloc ?_ _ | with_reducible refine Up.drew ?_ | with_reducible refine Up.drewN ?_ _ | with_reducible refine Up.setCell ?_ (by (try simp) <;> omega) _ | with_reducible assumption | with_reducible refine Up.trans ?_ (by assumption)))⟩
/-- a field: its attribute's place, and the attribute -/
def encF (x : Int × Int) : Array Value := #[.int .i64 x.1, .agg #[.bool (fP x.2), .bool (fN x.2), .int .i64 (fD x.2), .bool (fM x.2)]]
/-- a space of which something holds -/
def FldG (f : Nat → Bool) (p m : Nat) (pre : List (Int × Int)) (x : Int × Int) (W : World) : Prop :=
  pre.map (·.1) ++ [x.1] <+: those f m ∧ ∀ g Y, SAt W p g Y → Y.Ok → Y.L.length = m → (Y.at_ x.1).fa = x.2
theorem SAt.at_eq {w : World} {p g g' : Nat} {X X' : Spc} (h : SAt w p g X) (h' : SAt w p g' X') (ok : X.Ok) (ok' : X'.Ok) (k : Nat) (hk : k < X.L.length) : X.at_ (k : Int) = X'.at_ (k : Int) := by
  obtain ⟨e1, -, e3⟩ := h.cells_eq h'
  have h1 := Spc.at_nat ok hk
  have h2 := Spc.at_nat ok' (show k < X'.L.length by omega)
  rw [e3 k, h2] at h1
  injection h1 with h1
  exact h1.symm
/-- how the inner loop stands -/
structure FtI (J : (Nat → Prop) → List (Int × Int) → World → Prop) (p b1 b2 : Nat) (l : Nat) (N : Nat → Prop) (pre : List Int) (W : World) : Prop where
  j : ∃ ys : List (Int × Int), ys.map (·.1) = pre ∧ J (fun k => N k ∨ k = b1 ∨ k = b2) ys W
  c1 : W.cell? ⟨b1, 0, none⟩ = some (.func (.yield l) #[] #[])
  c2 : W.cell? ⟨b2, 0, none⟩ = some (.pointer (some ⟨p, 0, none⟩))
  n1 : ¬ N b1
  n2 : ¬ N b2
theorem FtI.own {J : (Nat → Prop) → List (Int × Int) → World → Prop} {p b1 b2 l : Nat} (hJ : Own2 J) : Own2 (FtI J p b1 b2 l) := by
  rintro N N' s W W' ⟨⟨ys, hy, h1⟩, h2, h3, h4, h5⟩ hk hn
  have z1 := cell_lt h2
  have z2 := cell_lt h3
  refine ⟨⟨ys, hy, hJ _ _ _ _ _ h1 (hk.mono fun k h => .inl h) ?_⟩, ((hk.at_ b1 z1 h4).1 0).trans h2, ((hk.at_ b2 z2 h5).1 0).trans h3, fun h => ?_, fun h => ?_⟩
  · rintro k (h | h | h)
    · rcases hn k h with h | h
      · exact .inl (.inl h)
      · exact .inr h
    · exact .inl (.inr (.inl h))
    · exact .inl (.inr (.inr h))
  · rcases hn _ h with h | h
    · exact h4 h
    · have : b1 < W.heap.size := z1; omega
  · rcases hn _ h with h | h
    · exact h5 h
    · have : b2 < W.heap.size := z2; omega

set_option maxRecDepth 100000 in
set_option maxHeartbeats 6400000 in
theorem fields_it {p m b : Nat} {f : Nat → Bool} {Q : Spc → Prop} (hQ : ∀ X, Q X → HasAt f m X) : ItN Try.prog 129 #[.pointer (some ⟨b, 0, none⟩)] encF (fun _ => False) (fun _ => True) (SeeS p m b Q) (FldG f p m) (fun xs => xs.map (·.1) = those f m) (fun pre => pre.map (·.1) <+: those f m) := by
  intro k l J Jx N0 W hJ hJx hV hT hNz hV0 hY h0
  refine callsIn_of_wp_marks Try.func129 rfl trivial ?_ rfl
  simp only [Try.ntmps129, List.size_toArray, List.length_cons, List.length_nil, Nat.reduceAdd, Nat.reduceSub, Array.replicate_succ, Array.replicate_zero, List.push_toArray, List.append_toArray, List.nil_append, List.cons_append]
  obtain ⟨g, X, hs, ok, hm, hq, hb⟩ := hV _ _ _ h0
  have zb := cell_lt hb
  have HY := Lib.hid hY
  have HJ := Lib.hid hJ
  have HJx := Lib.hid hJx
  have HVV := Lib.hid hV
  have H0 := Lib.hid h0
  clear hY hJ hJx hV h0 hT hV0 hs ok hm hq
  refine wpIn_wide.2 ?_
  go_wp2_with fail
  refine (attrs_val _ _).mono ?_
  rintro e w3 ⟨b2, rfl, hb2, hb2', hc2, -, hu3⟩
  simp at hb2
  have c1 : w3.cell? ⟨W.heap.size, 0, none⟩ = some (.func (.yield l) #[] #[]) := ((hu3.at_ W.heap.size (by simp)).1 0).trans (by simp [go_sem])
  have hUW := ((Up.refl W).alloc (.cells #[.func (.yield l) #[] #[]] 142)).trans hu3
  have HI0 := Lib.hid (show FtI J p W.heap.size b2 l N0 [] w3 from ⟨⟨[], rfl, HJ.out _ _ _ _ _ H0.out (Keep.of_up hUW) (fun k hk => by rcases hk with h | h | h; exact .inl h; exact .inr (by have := hu3.size; simp at this; omega); exact .inr (by omega))⟩, c1, hc2, fun h => by have := hNz _ h; omega, fun h => by have := hNz _ h; omega⟩)
  clear hu3 hUW c1 hc2
  go_wp2_with fail
  refine wpIn_wide.1 (range_n (n := k) (gf := 157) (lb := #[.pointer (some ⟨b2, 0, none⟩)]) rfl enters_attrs (attrs_it (p := p) (m := m) (b := b2) (Q := Q) hQ) (fun _ => rfl)
    N0 (fun k hk => by have := hNz k hk; omega) (fun k hk => hk.elim) (fun _ _ => trivial)
    (FtI J p W.heap.size b2 l) (fun c N xs W' => match c with | .ret => ∃ ys : List (Int × Int), ys.map (·.1) = xs ∧ Jx N ys W' | _ => False)
    (FtI.own HJ.out) ?ownx ?see HI0.out
    (fun pre x a' N W' => pre ++ [x] <+: those f m ∧ a' = { tmps := #[.func (.yield l) #[] #[], .pointer (some ⟨b, 0, none⟩), .pointer (some ⟨W.heap.size, 0, none⟩), .int .i64 x, .pointer (some ⟨p, 0, none⟩), .func (.func 157) #[] #[.pointer (some ⟨b2, 0, none⟩)], .int .i64 x, undef, undef, undef, undef, undef, undef, undef, undef, undef], defers := [] })
    (fun _ _ _ _ _ _ _ _ h _ _ => h) ?assign ?body ?done ?stop)
  case ownx =>
    intro c N N' xs A A' h hk hn
    cases c
    case ret =>
      obtain ⟨ys, h1, h2⟩ := h
      exact ⟨ys, h1, HJx.out _ _ _ _ _ h2 hk hn⟩
    all_goals exact h.elim
  case see =>
    rintro N pre A ⟨⟨ys, hy, h1⟩, h2, h3, h4, h5⟩
    obtain ⟨g', X', a1, a2, a3, a4, a5⟩ := HVV.out _ _ _ h1
    exact ⟨g', X', a1, a2, a3, a4, h3⟩
  case assign =>
    rintro ll N pre x A K hz hI hG hK
    have HI := Lib.hid hI
    have HG := Lib.hid hG
    clear hI hG
    gi_wp2
    exact hK _ _ (Held.refl _ _) HI.out ⟨HG.out, rfl⟩
  case body =>
    rintro ll N pre x a' A hl hr hz hI ⟨hG, rfl⟩
    obtain ⟨ys, hys, hj⟩ := hI.j
    obtain ⟨g', Y, hs, ok, hm, hq, hbb⟩ := HVV.out _ _ _ hj
    have hmem : x ∈ those f m := hG.subset (by simp)
    obtain ⟨kx, rfl, hkx, -⟩ := mem_those.1 hmem
    obtain ⟨d, hd⟩ : ∃ d, Y.at_ (kx : Int) = d := ⟨_, rfl⟩
    have hfa := Spc.fa_at ok (kx : Int)
    rw [hd] at hfa
    have HAT := Lib.hid (fun W' (hu : Up A W') => sat_op (kx : Int) (hs.up hu) ok hd)
    have HOF := Lib.hid (fun W => of_any d.fa W hfa.1 hfa.2)
    have fC := fldC2
    have k1 := hI.c1
    have z1 := cell_lt k1
    simp only at z1
    have zbb := cell_lt hbb
    have HG2 := Lib.hid (fun W' (hu : Up A W') => show FldG f p m ys ((kx : Int), d.fa) W' from ⟨by rw [hys]; exact hG, fun g2 Y2 h2 ok2 hm2 => by
      have := (hs.up hu).at_eq h2 ok ok2 kx (by omega)
      simp only
      rw [← this, hd]⟩)
    have HJY := Lib.hid (fun W' (hu : Up A W') => HJ.out.up hj hu)
    have HI := Lib.hid hI
    have HYS := Lib.hid hys
    have HZ := Lib.hid hz
    clear hI hz hr hl hj hs ok hm hq hd hfa hmem hG hys
    have k2 := hbb
    simp only at zbb
    gi_wp2
    refine wpIn_region_mixT 7 (NS := []) [] rfl (by kernel_rfl) (by kernel_rfl) (by simp) (by simp) ?_
    simp only [List.take_succ_cons, List.take_zero, List.drop_succ_cons, List.drop_zero]
    repeat (first
      | (refine mix_skip rfl rfl ?_; simp only [Act.put, List.setIfInBounds_toArray, List.set_cons_succ, List.set_cons_zero])
      | (refine mix_q rfl rfl rfl (by kernel_rfl) rfl rfl rfl ?_
         apply Exists.intro
         refine ⟨fun Wm => ?_, ?_⟩
         · simp only [fin]
           skip
           intro K hK
           go_wp2_with ((first | (go_at_call 27; (with_reducible refine (HAT.out _ (up_upOf _ _)).mono ?_); rintro e w' ⟨rfl, hux⟩) | (go_at_call 124; (with_reducible refine (HOF.out _).mono ?_); rintro e w' ⟨rfl, hux⟩)))
           refine hK _ _ ?_ ?_ ?_
           · (repeat (first | with_reducible exact Up.refl _ | with_reducible refine Up.alloc ?_ _ | with_reducible refine Up.drew ?_ | with_reducible refine Up.drewN ?_ _ | with_reducible refine Up.setCell ?_ (by (try simp) <;> omega) _ | with_reducible assumption | with_reducible refine Up.trans ?_ (by assumption)))
           · rfl
           · exact tmps_at rfl
         simp only [Act.put, List.setIfInBounds_toArray, List.set_cons_succ, List.set_cons_zero]))
    refine mix_nil ?_
    intro w9 hb_w9
    simp only [fin]
    obtain ⟨fn, tmps, assign, body, hy, hR⟩ := YieldAt.any (m' := k - 1 - 1 - 1) (HY.out _ ys ((kx : Int), d.fa) w9 (HJY.out _ hb_w9) (HG2.out _ hb_w9))
    have HRR := Lib.hid hR
    have HB9 := Lib.hid hb_w9
    clear hR hb_w9
    simp only [encF] at hy
    gi_wp2
    refine ⟨fun h => by simp [Fence.wide, Fence.inRound] at h, ?_⟩
    refine (RoundIn.inR HRR.out).mono ?_
    rintro e A' (⟨rfl, hJ', hh⟩ | ⟨rfl, hJ', hh⟩)
    · have HJ' := Lib.hid hJ'
      have HH := Lib.hid hh
      clear hJ' hh hy
      gi_wp2
      have h9 : Held N A w9 := Held.of_up HB9.out HZ.out
      refine ⟨h9.trans (HH.out.mono fun k h => .inl h), ?_⟩
      have h := HI.out
      have e1 : A'.heap[W.heap.size]? = w9.heap[W.heap.size]? := HH.out _ (.inr (.inl rfl))
      have e2 : A'.heap[b2]? = w9.heap[b2]? := HH.out _ (.inr (.inr rfl))
      exact ⟨⟨_, by rw [List.map_append, HYS.out]; rfl, HJ'.out⟩, (World.cell?_of_block (a := ⟨W.heap.size, 0, none⟩) e1).trans (((HB9.out.at_ _ (cell_lt h.c1)).1 0).trans h.c1), (World.cell?_of_block (a := ⟨b2, 0, none⟩) e2).trans (((HB9.out.at_ _ (cell_lt h.c2)).1 0).trans h.c2), h.n1, h.n2⟩
    · have HJ' := Lib.hid hJ'
      have HH := Lib.hid hh
      clear hJ' hh hy
      gi_wp2
      have h9 : Held N A w9 := Held.of_up HB9.out HZ.out
      exact ⟨h9.trans (HH.out.mono fun k h => .inl h), _, by rw [List.map_append, HYS.out]; rfl, HJx.out.less HJ'.out fun k h => .inl h⟩
  case done =>
    rintro Dd N xs A hD hND hN0 hS hI hK
    have HI := Lib.hid hI
    have HS := Lib.hid hS
    have HK := Lib.hid hK
    have HN0 := Lib.hid hN0
    have HND := Lib.hid hND
    clear hI hS hK hN0 hND
    go_wp2
    refine ⟨by simp, .inl ⟨_, _, rfl, run_takeDeferred HK.out, ?_⟩⟩
    obtain ⟨ys, hy, h⟩ := HI.out.j
    exact ⟨_, results_none rfl _ _ _, ⟨_, rfl⟩, .inl ⟨ys, hy.trans HS.out, HJ.out.less (HJ.out _ _ _ _ _ h (keep_put _ (.inl HND.out)) (fun k hk => .inl hk)) (fun k hk => .inl (HN0.out k hk))⟩⟩
  case stop =>
    rintro Dd N c pre A hD hND hN0 hSp hIx hK
    cases c
    case ret =>
      refine wpIn_wide.2 ?_
      have HI := Lib.hid hIx
      have HK := Lib.hid hK
      have HN0 := Lib.hid hN0
      have HND := Lib.hid hND
      have HSP := Lib.hid hSp
      clear hIx hK hN0 hND hSp
      go_wp2
      refine ⟨by simp, .inl ⟨_, _, rfl, run_takeDeferred HK.out, ?_⟩⟩
      obtain ⟨ys, hy, h⟩ := HI.out
      exact ⟨_, results_none rfl _ _ _, ⟨_, rfl⟩, .inr ⟨ys, by rw [hy]; exact HSP.out, HJx.out.less (HJx.out _ _ _ _ _ h (keep_put _ HND.out) (fun k hk => .inl hk)) (fun k hk => HN0.out k hk)⟩⟩
    all_goals exact hIx.elim
end Go.Proofs.Ytjokcfenncogkaa
