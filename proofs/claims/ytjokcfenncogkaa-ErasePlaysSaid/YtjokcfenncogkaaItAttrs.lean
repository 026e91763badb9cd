/-
  space's Attrs as an iterator. No condition.
-/
import Derived.Test.YtjokcfenncogkaaItAll
namespace Go.Proofs.Ytjokcfenncogkaa
open Go.RowKit Go.Shelf
set_option linter.unusedVariables false
set_option linter.unusedSimpArgs false
attribute [local go_sem] Oper.semAt_some

theorem enters_attrs : ∀ args w, (callFunc 157 args).run Try.prog w = .ok (.enter 157 args) w := enters_of Try.func157 (by kernel_rfl) rfl
theorem all_val (v : Option Addr) (w : World) :
    Calls Try.prog 128 #[.pointer v] w fun e w' => ∃ b, e = .returned (.func (.func 158) #[] #[.pointer (some ⟨b, 0, none⟩)]) ∧ w.heap.size ≤ b ∧ b < w'.heap.size ∧ w'.cell? ⟨b, 0, none⟩ = some (.pointer v) ∧ w'.frozen? ⟨b, 0, none⟩ = false ∧ Up w w' := by
  go_enter Try.func128, Try.ntmps128
  go_wp2
  go_ret
  exact ⟨w.heap.size, rfl, Nat.le_refl _, by simp, by simp [go_sem], by simp [go_sem], by (repeat (first | with_reducible exact Up.refl _ | with_reducible refine Up.alloc ?_ _ | with_reducible refine Up.drew ?_ | with_reducible refine Up.drewN ?_ _ | with_reducible refine Up.setCell ?_ (by (try simp) <;> omega) _ | with_reducible assumption | with_reducible refine Up.trans ?_ (by assumption)))⟩
theorem attrs_val (v : Option Addr) (w : World) :
    Calls Try.prog 123 #[.pointer v] w fun e w' => ∃ b, e = .returned (.func (.func 157) #[] #[.pointer (some ⟨b, 0, none⟩)]) ∧ w.heap.size ≤ b ∧ b < w'.heap.size ∧ w'.cell? ⟨b, 0, none⟩ = some (.pointer v) ∧ w'.frozen? ⟨b, 0, none⟩ = false ∧ Up w w' := by
  go_enter Try.func123, Try.ntmps123
  go_wp2
  go_ret
  exact ⟨w.heap.size, rfl, Nat.le_refl _, by simp, by simp [go_sem], by simp [go_sem], by (repeat (first | with_reducible exact Up.refl _ | with_reducible refine Up.alloc ?_ _ | with_reducible refine Up.drew ?_ | with_reducible refine Up.drewN ?_ _ | with_reducible refine Up.setCell ?_ (by (try simp) <;> omega) _ | with_reducible assumption | with_reducible refine Up.trans ?_ (by assumption)))⟩
/-- a space of these attributes' places -/
def HasAt (f : Nat → Bool) (m : Nat) (X : Spc) : Prop := ∀ k, k < m → isAt X.L k = f k
/-- how the inner loop stands -/
structure AtI (J : (Nat → Prop) → List Int → World → Prop) (f : Nat → Bool) (p b1 b2 : Nat) (l : Nat) (N : Nat → Prop) (pre : List (Nat × Cl)) (W : World) : Prop where
  j : J (fun k => N k ∨ k = b1 ∨ k = b2) (those f pre.length) W
  c1 : W.cell? ⟨b1, 0, none⟩ = some (.func (.yield l) #[] #[])
  c2 : W.cell? ⟨b2, 0, none⟩ = some (.pointer (some ⟨p, 0, none⟩))
  n1 : ¬ N b1
  n2 : ¬ N b2
theorem AtI.own {J : (Nat → Prop) → List Int → World → Prop} {f : Nat → Bool} {p b1 b2 l : Nat} (hJ : Own2 J) : Own2 (AtI J f p b1 b2 l) := by
  rintro N N' s W W' ⟨h1, h2, h3, h4, h5⟩ hk hn
  have z1 := cell_lt h2
  have z2 := cell_lt h3
  refine ⟨hJ _ _ _ _ _ h1 (hk.mono fun k h => .inl h) ?_, ((hk.at_ b1 z1 h4).1 0).trans h2, ((hk.at_ b2 z2 h5).1 0).trans h3, fun h => ?_, fun h => ?_⟩
  · rintro k (h | h | h)
    · rcases hn k h with h | h
      · exact .inl (.inl h)
      · exact .inr h
    · exact .inl (.inr (.inl h))
    · exact .inl (.inr (.inr h))
  · rcases hn _ h with h | h
    · exact h4 h
    · have : b1 < W.heap.size := z1; omega
  · rcases hn _ h with h | h
    · exact h5 h
    · have : b2 < W.heap.size := z2; omega

set_option maxRecDepth 100000 in
set_option maxHeartbeats 6400000 in
theorem attrs_it {p m b : Nat} {f : Nat → Bool} {Q : Spc → Prop} (hQ : ∀ X, Q X → HasAt f m X) : ItN Try.prog 157 #[.pointer (some ⟨b, 0, none⟩)] (fun x : Int => #[.int .i64 x]) (fun _ => False) (fun _ => True) (SeeS p m b Q) (fun pre x _ => pre ++ [x] <+: those f m) (· = those f m) (· <+: those f m) := by
  intro k l J Jx N0 W hJ hJx hV hT hNz hV0 hY h0
  refine callsIn_of_wp_marks Try.func157 rfl trivial ?_ rfl
  simp only [Try.ntmps157, List.size_toArray, List.length_cons, List.length_nil, Nat.reduceAdd, Nat.reduceSub, Array.replicate_succ, Array.replicate_zero, List.push_toArray, List.append_toArray, List.nil_append, List.cons_append]
  obtain ⟨g, X, hs, ok, hm, hq, hb⟩ := hV _ _ _ h0
  have zb := cell_lt hb
  have HY := Lib.hid hY
  have HJ := Lib.hid hJ
  have HJx := Lib.hid hJx
  have HVV := Lib.hid hV
  have H0 := Lib.hid h0
  clear hY hJ hJx hV h0 hT hV0 hs ok hm hq
  refine wpIn_wide.2 ?_
  go_wp2_with fail
  refine (all_val _ _).mono ?_
  rintro e w3 ⟨b2, rfl, hb2, hb2', hc2, -, hu3⟩
  simp at hb2
  have c1 : w3.cell? ⟨W.heap.size, 0, none⟩ = some (.func (.yield l) #[] #[]) := ((hu3.at_ W.heap.size (by simp)).1 0).trans (by simp [go_sem])
  have hUW := ((Up.refl W).alloc (.cells #[.func (.yield l) #[] #[]] 106)).trans hu3
  have HI0 := Lib.hid (show AtI J f p W.heap.size b2 l N0 [] w3 from ⟨HJ.out _ _ _ _ _ H0.out (Keep.of_up hUW) (fun k hk => by rcases hk with h | h | h; exact .inl h; exact .inr (by have := hu3.size; simp at this; omega); exact .inr (by omega)), c1, hc2, fun h => by have := hNz _ h; omega, fun h => by have := hNz _ h; omega⟩)
  clear hu3 hUW c1 hc2
  go_wp2_with fail
  refine wpIn_wide.1 (range_n (n := k) (gf := 158) (lb := #[.pointer (some ⟨b2, 0, none⟩)]) rfl enters_all (all_it (p := p) (m := m) (b := b2) (Q := Q)) (fun _ => rfl)
    N0 (fun k hk => by have := hNz k hk; omega) (fun k hk => hk.elim) (fun _ _ => trivial)
    (AtI J f p W.heap.size b2 l) (fun c N xs W' => match c with | .ret => Jx N (those f xs.length) W' ∧ xs.length ≤ m | _ => False)
    (AtI.own HJ.out) ?ownx ?see HI0.out
    (fun pre x a' N W' => pre.length = x.1 ∧ x.1 < m ∧ f x.1 = x.2.at_ ∧ ∃ bx, a' = { tmps := #[.func (.yield l) #[] #[], .pointer (some ⟨b, 0, none⟩), .pointer (some ⟨W.heap.size, 0, none⟩), .int .i64 (x.1 : Int), .pointer (some ⟨bx, 0, none⟩), .pointer (some ⟨p, 0, none⟩), .func (.func 158) #[] #[.pointer (some ⟨b2, 0, none⟩)], .int .i64 (x.1 : Int), x.2.val, undef, undef, undef, undef, undef, undef, undef, undef], defers := [] } ∧
      W'.cell? ⟨bx, 1, none⟩ = some (.bool x.2.at_) ∧ ¬ N bx)
    ?ownax ?assign ?body ?done ?stop)
  case ownx =>
    intro c N N' xs A A' h hk hn
    cases c
    case ret => exact ⟨HJx.out _ _ _ _ _ h.1 hk hn, h.2⟩
    all_goals exact h.elim
  case see =>
    rintro N pre A ⟨h1, h2, h3, h4, h5⟩
    obtain ⟨g', X', a1, a2, a3, a4, a5⟩ := HVV.out _ _ _ h1
    exact ⟨g', X', a1, a2, a3, a4, h3⟩
  case ownax =>
    rintro pre x a' N N' _ A A' ⟨h1, h2, h3, bx, h4, h5, h6⟩ hk hn
    have zx := cell_lt h5
    exact ⟨h1, h2, h3, bx, h4, ((hk.at_ bx zx h6).1 1).trans h5, fun h => by
      rcases hn _ h with h | h
      · exact h6 h
      · have : bx < A.heap.size := zx; omega⟩
  case assign =>
    rintro ll N pre ⟨j, c⟩ A K hz hI ⟨hj, hjm, hG⟩ hK
    obtain ⟨g', X', a1, a2, a3, a4, a5⟩ := HVV.out _ _ _ hI.j
    have HFC := Lib.hid (show f j = c.at_ by rw [← hQ X' a4 j hjm]; exact isAt_of (hG g' X' a1 a2 a3))
    have HI := Lib.hid hI
    have HN := Lib.hid hz
    have HGJ := Lib.hid (show pre.length = j ∧ j < m from ⟨hj.symm, hjm⟩)
    clear hI hz hj hjm hG a1 a2 a3 a4 a5
    simp only [encPC, Cl.val]
    gi_wp2
    refine hK _ _ (Held.of_up (show Up A _ by (repeat (first | with_reducible exact Up.refl _ | with_reducible refine Up.alloc ?_ _ | with_reducible refine Up.drew ?_ | with_reducible refine Up.drewN ?_ _ | with_reducible refine Up.setCell ?_ (by (try simp) <;> omega) _ | with_reducible assumption | with_reducible refine Up.trans ?_ (by assumption)))) HN.out) ((AtI.own HJ.out).up HI.out (by (repeat (first | with_reducible exact Up.refl _ | with_reducible refine Up.alloc ?_ _ | with_reducible refine Up.drew ?_ | with_reducible refine Up.drewN ?_ _ | with_reducible refine Up.setCell ?_ (by (try simp) <;> omega) _ | with_reducible assumption | with_reducible refine Up.trans ?_ (by assumption))))) ⟨HGJ.out.1, HGJ.out.2, HFC.out, A.heap.size, rfl, by simp [go_sem], fun h => by have := HN.out _ h; omega⟩
  case body =>
    rintro ll N pre ⟨j, c⟩ a' A hl hr hz hI ⟨hj, hjm, hfc, bx, rfl, hbx, hbn⟩
    have HI := Lib.hid hI
    have HN := Lib.hid hz
    have zx := cell_lt hbx
    simp only at hj hjm hfc hbx
    have HJL := Lib.hid hj
    have k1 := hI.c1
    have z1 := cell_lt k1
    have HP := Lib.hid (those_pre f (show j + 1 ≤ m by omega))
    clear hI hz hr hl hj
    obtain ⟨ch, at_, fa, hi_, co, se⟩ := c
    simp only at hfc hbx
    simp only [Cl.val]
    have HL1 := Lib.hid (show (pre ++ [(j, (⟨ch, at_, fa, hi_, co, se⟩ : Cl))]).length = j + 1 by simp [HJL.out])
    cases at_
    · have HT := Lib.hid (those_f hfc)
      clear hfc
      gi_wp2
      refine ⟨fun _ h => (by cases h), ?_⟩
      gi_wp2
      refine ⟨Held.refl _ _, ?_⟩
      have h := HI.out
      refine ⟨?_, h.c1, h.c2, h.n1, h.n2⟩
      rw [HL1.out, HT.out, ← HJL.out]
      exact h.j
    · have HT := Lib.hid (those_t hfc)
      have hP := HP.out
      rw [HT.out] at hP
      have hj2 := HI.out.j
      rw [HJL.out] at hj2
      obtain ⟨fn, tmps, assign, body, hy, hR⟩ := YieldAt.any (m' := k - 1 - 1 - 1) (HY.out _ _ (j : Int) A hj2 hP)
      have HRR := Lib.hid hR
      clear hfc hR hP hj2
      gi_wp2
      refine ⟨fun h => by simp [Fence.wide, Fence.inRound] at h, ?_⟩
      refine (RoundIn.inR HRR.out).mono ?_
      rintro e A' (⟨rfl, hJ', hh⟩ | ⟨rfl, hJ', hh⟩)
      · have HJ' := Lib.hid hJ'
        have HH := Lib.hid hh
        clear hJ' hh hy
        gi_wp2
        refine ⟨HH.out.mono fun k h => .inl h, ?_⟩
        have h := HI.out
        have e1 : A'.heap[W.heap.size]? = A.heap[W.heap.size]? := HH.out _ (.inr (.inl rfl))
        have e2 : A'.heap[b2]? = A.heap[b2]? := HH.out _ (.inr (.inr rfl))
        refine ⟨?_, (World.cell?_of_block (a := ⟨W.heap.size, 0, none⟩) e1).trans h.c1, (World.cell?_of_block (a := ⟨b2, 0, none⟩) e2).trans h.c2, h.n1, h.n2⟩
        rw [HL1.out, HT.out]
        exact HJ'.out
      · have HJ' := Lib.hid hJ'
        have HH := Lib.hid hh
        clear hJ' hh hy
        gi_wp2
        refine ⟨HH.out.mono fun k h => .inl h, ?_, by rw [HL1.out]; omega⟩
        rw [HL1.out, HT.out]
        exact HJx.out.less HJ'.out fun k h => .inl h
  case done =>
    rintro Dd N xs A hD hND hN0 hS hI hK
    have HI := Lib.hid hI
    have HS := Lib.hid hS
    have HK := Lib.hid hK
    have HN0 := Lib.hid hN0
    have HND := Lib.hid hND
    clear hI hS hK hN0 hND
    go_wp2
    refine ⟨by simp, .inl ⟨_, _, rfl, run_takeDeferred HK.out, ?_⟩⟩
    have h := HI.out.j
    rw [HS.out] at h
    exact ⟨_, results_none rfl _ _ _, ⟨_, rfl⟩, .inl ⟨_, rfl, HJ.out.less (HJ.out _ _ _ _ _ h (keep_put _ (.inl HND.out)) (fun k hk => .inl hk)) (fun k hk => .inl (HN0.out k hk))⟩⟩
  case stop =>
    rintro Dd N c pre A hD hND hN0 hSp hIx hK
    cases c
    case ret =>
      refine wpIn_wide.2 ?_
      have HI := Lib.hid hIx
      have HK := Lib.hid hK
      have HN0 := Lib.hid hN0
      have HND := Lib.hid hND
      clear hIx hK hN0 hND
      go_wp2
      refine ⟨by simp, .inl ⟨_, _, rfl, run_takeDeferred HK.out, ?_⟩⟩
      exact ⟨_, results_none rfl _ _ _, ⟨_, rfl⟩, .inr ⟨_, those_pre f HI.out.2, HJx.out.less (HJx.out _ _ _ _ _ HI.out.1 (keep_put _ HND.out) (fun k hk => .inl hk)) (fun k hk => HN0.out k hk)⟩⟩
    all_goals exact hIx.elim
end Go.Proofs.Ytjokcfenncogkaa
