/-
space's Attrs as an iterator. No condition.
What the fields of a screen are, in plain terms. No condition.
The document's words of fields, in plain terms: starts, places, first places, the nearest. No condition.
-/
import Derived.Test.YtamfjgioajmnpaaGreatDoorJa9
namespace Go.Proofs.YtamfjgioajmnpaaGreatDoor
open Go.RowKit Go.Shelf
set_option linter.unusedVariables false
set_option linter.unusedSimpArgs false
attribute [local go_sem] Oper.semAt_some

theorem enters_attrs : ∀ args w, (callFunc 351 args).run Tryz.prog w = .ok (.enter 351 args) w := enters_of Tryz.func351 (by kernel_rfl) rfl
theorem all_val (v : Option Addr) (w : World) :
    Calls Tryz.prog 207 #[.pointer v] w fun e w' => ∃ b, e = .returned (.func (.func 258) #[] #[.pointer (some ⟨b, 0, none⟩)]) ∧ w.heap.size ≤ b ∧ b < w'.heap.size ∧ w'.cell? ⟨b, 0, none⟩ = some (.pointer v) ∧ w'.frozen? ⟨b, 0, none⟩ = false ∧ Up w w' := by
  go_enter Tryz.func207, Tryz.ntmps207
  go_wp2
  go_ret
  exact ⟨w.heap.size, rfl, Nat.le_refl _, by simp, by simp [go_sem], by simp [go_sem], by (repeat (first | with_reducible exact Up.refl _ | with_reducible refine Up.alloc ?_ _ | with_reducible refine Up.drew ?_ | with_reducible refine Up.drewN ?_ _ | with_reducible refine Up.setCell ?_ (by (try simp) <;> omega) _ | with_reducible assumption | with_reducible refine Up.trans ?_ (by assumption)))⟩
theorem attrs_val (v : Option Addr) (w : World) :
    Calls Tryz.prog 304 #[.pointer v] w fun e w' => ∃ b, e = .returned (.func (.func 351) #[] #[.pointer (some ⟨b, 0, none⟩)]) ∧ w.heap.size ≤ b ∧ b < w'.heap.size ∧ w'.cell? ⟨b, 0, none⟩ = some (.pointer v) ∧ w'.frozen? ⟨b, 0, none⟩ = false ∧ Up w w' := by
  go_enter Tryz.func304, Tryz.ntmps304
  go_wp2
  go_ret
  exact ⟨w.heap.size, rfl, Nat.le_refl _, by simp, by simp [go_sem], by simp [go_sem], by (repeat (first | with_reducible exact Up.refl _ | with_reducible refine Up.alloc ?_ _ | with_reducible refine Up.drew ?_ | with_reducible refine Up.drewN ?_ _ | with_reducible refine Up.setCell ?_ (by (try simp) <;> omega) _ | with_reducible assumption | with_reducible refine Up.trans ?_ (by assumption)))⟩
/-- a space of these attributes' places -/
def HasAt (f : Nat → Bool) (m : Nat) (X : Spc) : Prop := ∀ k, k < m → isAt X.L k = f k
/-- how the inner loop stands -/
structure AtI (J : (Nat → Prop) → List Int → World → Prop) (f : Nat → Bool) (p b1 b2 : Nat) (l : Nat) (N : Nat → Prop) (pre : List (Nat × Cl)) (W : World) : Prop where
  j : J (fun k => N k ∨ k = b1 ∨ k = b2) (those f pre.length) W
  c1 : W.cell? ⟨b1, 0, none⟩ = some (.func (.yield l) #[] #[])
  c2 : W.cell? ⟨b2, 0, none⟩ = some (.pointer (some ⟨p, 0, none⟩))
  n1 : ¬ N b1
  n2 : ¬ N b2
theorem AtI.own {J : (Nat → Prop) → List Int → World → Prop} {f : Nat → Bool} {p b1 b2 l : Nat} (hJ : Own2 J) : Own2 (AtI J f p b1 b2 l) := by
  rintro N N' s W W' ⟨h1, h2, h3, h4, h5⟩ hk hn
  have z1 := cell_lt h2
  have z2 := cell_lt h3
  refine ⟨hJ _ _ _ _ _ h1 (hk.mono fun k h => .inl h) ?_, ((hk.at_ b1 z1 h4).1 0).trans h2, ((hk.at_ b2 z2 h5).1 0).trans h3, fun h => ?_, fun h => ?_⟩
  · rintro k (h | h | h)
    · rcases hn k h with h | h
      · exact .inl (.inl h)
      · exact .inr h
    · exact .inl (.inr (.inl h))
    · exact .inl (.inr (.inr h))
  · rcases hn _ h with h | h
    · exact h4 h
    · have : b1 < W.heap.size := z1; omega
  · rcases hn _ h with h | h
    · exact h5 h
    · have : b2 < W.heap.size := z2; omega

set_option maxRecDepth 100000 in
set_option maxHeartbeats 6400000 in
theorem attrs_it {p m b : Nat} {f : Nat → Bool} {Q : Spc → Prop} (hQ : ∀ X, Q X → HasAt f m X) : ItN Tryz.prog 351 #[.pointer (some ⟨b, 0, none⟩)] (fun x : Int => #[.int .i64 x]) (fun _ => False) (fun _ => True) (SeeS p m b Q) (fun pre x _ => pre ++ [x] <+: those f m) (· = those f m) (· <+: those f m) := by
  intro k l J Jx N0 W hJ hJx hV hT hNz hV0 hY h0
  refine callsIn_of_wp_marks Tryz.func351 rfl trivial ?_ rfl
  simp only [Tryz.ntmps351, List.size_toArray, List.length_cons, List.length_nil, Nat.reduceAdd, Nat.reduceSub, Array.replicate_succ, Array.replicate_zero, List.push_toArray, List.append_toArray, List.nil_append, List.cons_append]
  obtain ⟨g, X, hs, ok, hm, hq, hb⟩ := hV _ _ _ h0
  have zb := cell_lt hb
  have HY := Lib.hid hY
  have HJ := Lib.hid hJ
  have HJx := Lib.hid hJx
  have HVV := Lib.hid hV
  have H0 := Lib.hid h0
  clear hY hJ hJx hV h0 hT hV0 hs ok hm hq
  refine wpIn_wide.2 ?_
  go_wp2_with fail
  refine (all_val _ _).mono ?_
  rintro e w3 ⟨b2, rfl, hb2, hb2', hc2, -, hu3⟩
  simp at hb2
  have c1 : w3.cell? ⟨W.heap.size, 0, none⟩ = some (.func (.yield l) #[] #[]) := ((hu3.at_ W.heap.size (by simp)).1 0).trans (by simp [go_sem])
  have hUW := ((Up.refl W).alloc (.cells #[.func (.yield l) #[] #[]] 278)).trans hu3
  have HI0 := Lib.hid (show AtI J f p W.heap.size b2 l N0 [] w3 from ⟨HJ.out _ _ _ _ _ H0.out (Keep.of_up hUW) (fun k hk => by rcases hk with h | h | h; exact .inl h; exact .inr (by have := hu3.size; simp at this; omega); exact .inr (by omega)), c1, hc2, fun h => by have := hNz _ h; omega, fun h => by have := hNz _ h; omega⟩)
  clear hu3 hUW c1 hc2
  go_wp2_with fail
  refine wpIn_wide.1 (range_n (n := k) (gf := 258) (lb := #[.pointer (some ⟨b2, 0, none⟩)]) rfl enters_all (all_it (p := p) (m := m) (b := b2) (Q := Q)) (fun _ => rfl)
    N0 (fun k hk => by have := hNz k hk; omega) (fun k hk => hk.elim) (fun _ _ => trivial)
    (AtI J f p W.heap.size b2 l) (fun c N xs W' => match c with | .ret => Jx N (those f xs.length) W' ∧ xs.length ≤ m | _ => False)
    (AtI.own HJ.out) ?ownx ?see HI0.out
    (fun pre x a' N W' => pre.length = x.1 ∧ x.1 < m ∧ f x.1 = x.2.at_ ∧ ∃ bx, a' = { tmps := #[.func (.yield l) #[] #[], .pointer (some ⟨b, 0, none⟩), .pointer (some ⟨W.heap.size, 0, none⟩), .int .i64 (x.1 : Int), .pointer (some ⟨bx, 0, none⟩), .pointer (some ⟨p, 0, none⟩), .func (.func 258) #[] #[.pointer (some ⟨b2, 0, none⟩)], .int .i64 (x.1 : Int), x.2.val, undef, undef, undef, undef, undef, undef, undef, undef], defers := [] } ∧
      W'.cell? ⟨bx, 1, none⟩ = some (.bool x.2.at_) ∧ ¬ N bx)
    ?ownax ?assign ?body ?done ?stop)
  case ownx =>
    intro c N N' xs A A' h hk hn
    cases c
    case ret => exact ⟨HJx.out _ _ _ _ _ h.1 hk hn, h.2⟩
    all_goals exact h.elim
  case see =>
    rintro N pre A ⟨h1, h2, h3, h4, h5⟩
    obtain ⟨g', X', a1, a2, a3, a4, a5⟩ := HVV.out _ _ _ h1
    exact ⟨g', X', a1, a2, a3, a4, h3⟩
  case ownax =>
    rintro pre x a' N N' _ A A' ⟨h1, h2, h3, bx, h4, h5, h6⟩ hk hn
    have zx := cell_lt h5
    exact ⟨h1, h2, h3, bx, h4, ((hk.at_ bx zx h6).1 1).trans h5, fun h => by
      rcases hn _ h with h | h
      · exact h6 h
      · have : bx < A.heap.size := zx; omega⟩
  case assign =>
    rintro ll N pre ⟨j, c⟩ A K hz hI ⟨hj, hjm, hG⟩ hK
    obtain ⟨g', X', a1, a2, a3, a4, a5⟩ := HVV.out _ _ _ hI.j
    have HFC := Lib.hid (show f j = c.at_ by rw [← hQ X' a4 j hjm]; exact isAt_of (hG g' X' a1 a2 a3))
    have HI := Lib.hid hI
    have HN := Lib.hid hz
    have HGJ := Lib.hid (show pre.length = j ∧ j < m from ⟨hj.symm, hjm⟩)
    clear hI hz hj hjm hG a1 a2 a3 a4 a5
    simp only [encPC, Cl.val]
    gi_wp2
    refine hK _ _ (Held.of_up (show Up A _ by (repeat (first | with_reducible exact Up.refl _ | with_reducible refine Up.alloc ?_ _ | with_reducible refine Up.drew ?_ | with_reducible refine Up.drewN ?_ _ | with_reducible refine Up.setCell ?_ (by (try simp) <;> omega) _ | with_reducible assumption | with_reducible refine Up.trans ?_ (by assumption)))) HN.out) ((AtI.own HJ.out).up HI.out (by (repeat (first | with_reducible exact Up.refl _ | with_reducible refine Up.alloc ?_ _ | with_reducible refine Up.drew ?_ | with_reducible refine Up.drewN ?_ _ | with_reducible refine Up.setCell ?_ (by (try simp) <;> omega) _ | with_reducible assumption | with_reducible refine Up.trans ?_ (by assumption))))) ⟨HGJ.out.1, HGJ.out.2, HFC.out, A.heap.size, rfl, by simp [go_sem], fun h => by have := HN.out _ h; omega⟩
  case body =>
    rintro ll N pre ⟨j, c⟩ a' A hl hr hz hI ⟨hj, hjm, hfc, bx, rfl, hbx, hbn⟩
    have HI := Lib.hid hI
    have HN := Lib.hid hz
    have zx := cell_lt hbx
    simp only at hj hjm hfc hbx
    have HJL := Lib.hid hj
    have k1 := hI.c1
    have z1 := cell_lt k1
    have HP := Lib.hid (those_pre f (show j + 1 ≤ m by omega))
    clear hI hz hr hl hj
    obtain ⟨ch, at_, fa, hi_, co, se⟩ := c
    simp only at hfc hbx
    simp only [Cl.val]
    have HL1 := Lib.hid (show (pre ++ [(j, (⟨ch, at_, fa, hi_, co, se⟩ : Cl))]).length = j + 1 by simp [HJL.out])
    cases at_
    · have HT := Lib.hid (those_f hfc)
      clear hfc
      gi_wp2
      refine ⟨fun _ h => (by cases h), ?_⟩
      gi_wp2
      refine ⟨Held.refl _ _, ?_⟩
      have h := HI.out
      refine ⟨?_, h.c1, h.c2, h.n1, h.n2⟩
      rw [HL1.out, HT.out, ← HJL.out]
      exact h.j
    · have HT := Lib.hid (those_t hfc)
      have hP := HP.out
      rw [HT.out] at hP
      have hj2 := HI.out.j
      rw [HJL.out] at hj2
      obtain ⟨fn, tmps, assign, body, hy, hR⟩ := YieldAt.any (m' := k - 1 - 1 - 1) (HY.out _ _ (j : Int) A hj2 hP)
      have HRR := Lib.hid hR
      clear hfc hR hP hj2
      gi_wp2
      refine ⟨fun h => by simp [Fence.wide, Fence.inRound] at h, ?_⟩
      refine (RoundIn.inR HRR.out).mono ?_
      rintro e A' (⟨rfl, hJ', hh⟩ | ⟨rfl, hJ', hh⟩)
      · have HJ' := Lib.hid hJ'
        have HH := Lib.hid hh
        clear hJ' hh hy
        gi_wp2
        refine ⟨HH.out.mono fun k h => .inl h, ?_⟩
        have h := HI.out
        have e1 : A'.heap[W.heap.size]? = A.heap[W.heap.size]? := HH.out _ (.inr (.inl rfl))
        have e2 : A'.heap[b2]? = A.heap[b2]? := HH.out _ (.inr (.inr rfl))
        refine ⟨?_, (World.cell?_of_block (a := ⟨W.heap.size, 0, none⟩) e1).trans h.c1, (World.cell?_of_block (a := ⟨b2, 0, none⟩) e2).trans h.c2, h.n1, h.n2⟩
        rw [HL1.out, HT.out]
        exact HJ'.out
      · have HJ' := Lib.hid hJ'
        have HH := Lib.hid hh
        clear hJ' hh hy
        gi_wp2
        refine ⟨HH.out.mono fun k h => .inl h, ?_, by rw [HL1.out]; omega⟩
        rw [HL1.out, HT.out]
        exact HJx.out.less HJ'.out fun k h => .inl h
  case done =>
    rintro Dd N xs A hD hND hN0 hS hI hK
    have HI := Lib.hid hI
    have HS := Lib.hid hS
    have HK := Lib.hid hK
    have HN0 := Lib.hid hN0
    have HND := Lib.hid hND
    clear hI hS hK hN0 hND
    go_wp2
    refine ⟨by simp, .inl ⟨_, _, rfl, run_takeDeferred HK.out, ?_⟩⟩
    have h := HI.out.j
    rw [HS.out] at h
    exact ⟨_, results_none rfl _ _ _, ⟨_, rfl⟩, .inl ⟨_, rfl, HJ.out.less (HJ.out _ _ _ _ _ h (keep_put _ (.inl HND.out)) (fun k hk => .inl hk)) (fun k hk => .inl (HN0.out k hk))⟩⟩
  case stop =>
    rintro Dd N c pre A hD hND hN0 hSp hIx hK
    cases c
    case ret =>
      refine wpIn_wide.2 ?_
      have HI := Lib.hid hIx
      have HK := Lib.hid hK
      have HN0 := Lib.hid hN0
      have HND := Lib.hid hND
      clear hIx hK hN0 hND
      go_wp2
      refine ⟨by simp, .inl ⟨_, _, rfl, run_takeDeferred HK.out, ?_⟩⟩
      exact ⟨_, results_none rfl _ _ _, ⟨_, rfl⟩, .inr ⟨_, those_pre f HI.out.2, HJx.out.less (HJx.out _ _ _ _ _ HI.out.1 (keep_put _ HND.out) (fun k hk => .inl hk)) (fun k hk => HN0.out k hk)⟩⟩
    all_goals exact hIx.elim
end Go.Proofs.YtamfjgioajmnpaaGreatDoor
namespace Go.Proofs.YtamfjgioajmnpaaGreatDoor
open Go.RowKit
set_option linter.unusedVariables false
set_option linter.unusedSimpArgs false

theorem those_set13 (L : List Cl) (n : Nat) (h : n ≤ L.length) : (those (isAt L) n).length = ((L.take n).map cnt).sum := by
  induction n with
  | zero => simp [those]
  | succ n ih =>
    have hlt : n < L.length := by omega
    rw [those_succ, List.take_succ_eq_append_getElem hlt, List.map_append, List.sum_append, ← ih (by omega)]
    have e : isAt L n = (L[n]).at_ := isAt_of (List.getElem?_eq_getElem hlt)
    simp only [List.map_cons, List.map_nil, List.sum_cons, List.sum_nil]
    unfold cnt
    rw [e]
    by_cases h : (L[n]).at_ <;> simp [h]
theorem attrs_len13 (X : Spc) : X.attrs.length = attrsN X.L := by
  unfold Spc.attrs attrsN
  rw [those_set13 _ _ (Nat.le_refl _), List.take_length]
/-- the first one below n of which p holds -/
def least (p : Nat → Bool) (n : Nat) : Option Nat := (List.range n).find? p
theorem least_some {p : Nat → Bool} {n d : Nat} : least p n = some d ↔ d < n ∧ p d = true ∧ ∀ j, j < d → p j = false := by
  unfold least
  rw [List.find?_range_eq_some]
  simp only [List.mem_range, Bool.not_eq_true']
  constructor
  · rintro ⟨h1, h2, h3⟩; exact ⟨h2, h1, h3⟩
  · rintro ⟨h1, h2, h3⟩; exact ⟨h2, h1, h3⟩
theorem least_none {p : Nat → Bool} {n : Nat} : least p n = none ↔ ∀ j, j < n → p j = false := by
  unfold least
  simp
theorem least_of {p : Nat → Bool} {n k : Nat} (hk : k < n) (hp : p k = true) : ∃ d, least p n = some d ∧ d ≤ k ∧ d < n ∧ p d = true ∧ ∀ j, j < d → p j = false := by
  cases h : least p n with
  | none => rw [least_none.1 h k hk] at hp; cases hp
  | some d =>
    obtain ⟨h1, h2, h3⟩ := least_some.1 h
    refine ⟨d, rfl, ?_, h1, h2, h3⟩
    rcases Nat.lt_or_ge k d with h4 | h4
    · rw [h3 k h4] at hp; cases hp
    · exact h4
def Spc.isA (X : Spc) (n : Int) : Bool := (X.at_ n).at_
theorem Spc.at_congr {X : Spc} {a b : Int} (h : a % (X.r * X.c) = b % (X.r * X.c)) : X.at_ a = X.at_ b := by
  unfold Spc.at_ Spc.wrap
  rw [h]
theorem Spc.at_emod (X : Spc) (n : Int) : X.at_ (n % (X.r * X.c)) = X.at_ n := Spc.at_congr (by simp)
theorem Spc.isA_congr {X : Spc} {a b : Int} (h : a % (X.r * X.c) = b % (X.r * X.c)) : X.isA a = X.isA b := by
  unfold Spc.isA
  rw [Spc.at_congr h]
theorem Spc.isA_emod (X : Spc) (n : Int) : X.isA (n % (X.r * X.c)) = X.isA n := Spc.isA_congr (by simp)
theorem Spc.isA_nat {X : Spc} (ok : X.Ok) {k : Nat} (h : k < X.L.length) : X.isA (k : Int) = isAt X.L k := by
  have h1 := Spc.at_nat ok h
  exact (isAt_of h1).symm
theorem Spc.pos {X : Spc} (ok : X.Ok) : 0 < X.r * X.c := by have := ok.len; have := ok.big; omega
theorem attrsN_pos {X : Spc} : 0 < attrsN X.L ↔ ∃ k, k < X.L.length ∧ isAt X.L k = true := by
  rw [← attrs_len13]
  constructor
  · intro h
    obtain ⟨x, hx⟩ := List.exists_mem_of_length_pos h
    obtain ⟨k, rfl, h1, h2⟩ := mem_those.1 hx
    exact ⟨k, h1, h2⟩
  · rintro ⟨k, h1, h2⟩
    have : (k : Int) ∈ X.attrs := mem_those.2 ⟨k, rfl, h1, h2⟩
    exact List.length_pos_of_mem this
/-- how far behind n its field's attribute stands -/
def Spc.back (X : Spc) (n : Int) : Option Nat := least (fun d => X.isA (n - d)) X.L.length
def Spc.start (X : Spc) (n : Int) : Int := match X.back n with | some d => (n - d) % (X.r * X.c) | none => -1
theorem back_none {X : Spc} (ok : X.Ok) (n : Int) (h : ¬ 0 < attrsN X.L) : X.back n = none := by
  refine least_none.2 fun d hd => ?_
  rw [attrsN_pos] at h
  obtain ⟨e1, e2⟩ := ok.wrap (n - d)
  rw [← Spc.isA_emod, e1, Spc.isA_nat ok e2]
  cases hh : isAt X.L (X.wrap (n - d))
  · rfl
  · exact absurd ⟨_, e2, hh⟩ h
theorem back_some {X : Spc} (ok : X.Ok) (n : Int) (h : 0 < attrsN X.L) : ∃ d, X.back n = some d ∧ d < X.L.length ∧ X.isA (n - d) = true ∧ ∀ j : Nat, j < d → X.isA (n - j) = false := by
  obtain ⟨k, h1, h2⟩ := attrsN_pos.1 h
  obtain ⟨e1, e2⟩ := ok.wrap (n - k)
  have hp : X.isA (n - (X.wrap (n - k) : Int)) = true := by
    rw [← e1]
    have : X.isA (n - (n - (k : Int)) % (X.r * X.c)) = X.isA (k : Int) := Spc.isA_congr (by rw [Int.sub_emod_emod]; congr 1; omega)
    rw [this, Spc.isA_nat ok h1, h2]
  obtain ⟨d, a1, a2, a3, a4, a5⟩ := least_of (p := fun d => X.isA (n - d)) e2 hp
  exact ⟨d, a1, a3, a4, a5⟩
theorem start_none {X : Spc} (ok : X.Ok) (n : Int) (h : ¬ 0 < attrsN X.L) : X.start n = -1 := by unfold Spc.start; rw [back_none ok n h]
theorem start_some {X : Spc} {n : Int} {d : Nat} (h : X.back n = some d) : X.start n = (n - d) % (X.r * X.c) := by unfold Spc.start; rw [h]
/-- a place after k steps ahead or back -/
theorem dist_up {M n : Int} {j d : Nat} (hj : j ≤ d) (hd : (d : Int) < M) : (((n + d) % M - (n + j) % M) % M).toNat = d - j := by
  have : ((n + d) % M - (n + j) % M) % M = ((d - j : Nat) : Int) := by
    rw [Int.emod_sub_emod, Int.sub_emod_emod]
    rw [show n + (d : Int) - (n + j) = ((d - j : Nat) : Int) by omega]
    exact Int.emod_eq_of_lt (by omega) (by omega)
  rw [this]; simp
theorem dist_dn {M n : Int} {j d : Nat} (hj : j ≤ d) (hd : (d : Int) < M) : (((n - j) % M - (n - d) % M) % M).toNat = d - j := by
  have : ((n - j) % M - (n - d) % M) % M = ((d - j : Nat) : Int) := by
    rw [Int.emod_sub_emod, Int.sub_emod_emod]
    rw [show n - (j : Int) - (n - d) = ((d - j : Nat) : Int) by omega]
    exact Int.emod_eq_of_lt (by omega) (by omega)
  rw [this]; simp
/-- is it the first place of an unprotected field? -/
def Spc.fst (X : Spc) (n : Int) : Bool := X.isA (n - 1) && !X.isA n && !fP (X.at_ (n - 1)).fa
theorem fst_congr {X : Spc} {a b : Int} (h : a % (X.r * X.c) = b % (X.r * X.c)) : X.fst a = X.fst b := by
  have h1 : (a - 1) % (X.r * X.c) = (b - 1) % (X.r * X.c) := by rw [← Int.emod_sub_emod, h, Int.emod_sub_emod]
  unfold Spc.fst
  rw [Spc.isA_congr h, Spc.isA_congr h1, Spc.at_congr h1]
def Spc.far (X : Spc) (n s : Int) : Option Nat := least (fun d => X.fst (n + s * (d + 1))) X.L.length
/-- the first such place, s by s -/
def Spc.find (X : Spc) (n s : Int) : Int := match X.far n s with | some d => (n + s * (d + 1)) % (X.r * X.c) | none => -1
theorem find_emod {X : Spc} (n s : Int) : X.find (n % (X.r * X.c)) s = X.find n s := by
  have e : X.far (n % (X.r * X.c)) s = X.far n s := by
    unfold Spc.far
    congr 1
    funext d
    exact fst_congr (by rw [Int.emod_add_emod])
  unfold Spc.find
  rw [e]
  cases X.far n s with
  | none => rfl
  | some d => exact Int.emod_add_emod ..
/-- how many places a field has -/
def Spc.cnt (X : Spc) (a : Int) : Nat := (least (fun d => X.isA (a + 1 + d)) X.L.length).getD 0
def stepsL (X : Spc) (a : Int) (n : Nat) : List Int := (List.range n).map fun i : Nat => (a + 1 + i) % (X.r * X.c)
theorem stepsL_succ (X : Spc) (a : Int) (n : Nat) : stepsL X a (n + 1) = stepsL X a n ++ [(a + 1 + n) % (X.r * X.c)] := by
  unfold stepsL
  rw [List.range_succ, List.map_append]; rfl
def Spc.places (X : Spc) (a : Int) : List Int := if X.isA a then stepsL X a (X.cnt a) else []
theorem cnt_is {X : Spc} (ok : X.Ok) {a : Int} (h : X.isA a = true) : X.cnt a < X.L.length ∧ X.isA (a + 1 + X.cnt a) = true ∧ ∀ j : Nat, j < X.cnt a → X.isA (a + 1 + j) = false := by
  have hl := ok.len
  have hb := ok.big
  have hp : X.isA (a + 1 + ((X.L.length - 1 : Nat) : Int)) = true := by
    rw [← h]
    refine Spc.isA_congr ?_
    rw [show a + 1 + ((X.L.length - 1 : Nat) : Int) = a + X.r * X.c by omega]
    simp
  obtain ⟨d, a1, a2, a3, a4, a5⟩ := least_of (p := fun d => X.isA (a + 1 + d)) (n := X.L.length) (by omega) hp
  unfold Spc.cnt
  rw [a1]
  exact ⟨a3, a4, a5⟩
end Go.Proofs.YtamfjgioajmnpaaGreatDoor
namespace Go.Proofs.YtamfjgioajmnpaaGreatDoor
open Go.RowKit
set_option linter.unusedVariables false
set_option linter.unusedSimpArgs false

end Go.Proofs.YtamfjgioajmnpaaGreatDoor
