/-
MixT inside a fence: a region that draws its order and holds a yield at its end. No condition.
field's Fields as an iterator. No condition.
field's Modified as an iterator; what Collect makes of it. No condition.
-/
import Derived.Test.YtamfjgioajmnpaaGreatDoorJa5
import Derived.Test.YtamfjgioajmnpaaGreatDoorJa8
import Derived.Stop.RegionWithIn
import Derived.Test.YtamfjgioajmnpaaGreatDoorJa34
import Derived.Test.YtamfjgioajmnpaaGreatDoorJa19
namespace Go.Proofs.YtamfjgioajmnpaaGreatDoor
open Go.RowKit
set_option linter.unusedVariables false
set_option linter.unusedSimpArgs false

section
variable {F : Fence} {nn : Nat} {P : Program} {ops : Array Oper} {w0 : World} {N : Tmp → Option (Value → World → Prop)} {md : Region.Mode}
theorem wpAnyIn_of_seq {Q' : Exit → Act → World → Prop} : ∀ (l : List Oper) (k : Nat) (listed : Array Bool) (a : Act) (w : World), (∀ j, l[j]? = ops[k + j]?) →
    Region.seqB md ops l.length k listed = true → wpListIn F nn P ops Q' l a w → wpAnyIn F nn P md ops Q' l.length listed a w
  | [], _, _, _, _, _, hB, h => ⟨by simpa [Region.seqB] using hB, h⟩
  | o :: l, k, listed, a, w, hl, hB, h => by
    have h0 : ops[k]? = some o := by simpa using (hl 0).symm
    simp only [List.length_cons, Region.seqB, Bool.and_eq_true, decide_eq_true_eq] at hB
    refine ⟨fun h1 => (by rw [hB.1] at h1; cases h1), fun i hi => ?_⟩
    rw [hB.1] at hi
    have hik : i = k := by simpa using hi
    subst hik
    have hw : wpOpIn F nn P ops Q' i (wpListIn F nn P ops Q' l) a w := by unfold wpOpIn; simp only [h0]; exact h
    exact wpOpIn_mono (fun a' w' h' => wpAnyIn_of_seq l (i + 1) _ a' w' (fun j => by have := hl (j + 1); simpa [Nat.add_assoc, Nat.add_comm 1 j] using this) hB.2 h') hw
theorem wpAnyIn_of_mixL {n g : Nat} {ts : List Tmp} (hfn : ∀ f, F.fn f) (hop : ∀ (o : Oper) (a : Act) (w : World) (K : Act → World → Prop) (Q : Exit → Act → World → Prop), (∀ c, o.op ≠ .defer c) → o.wp P a w K Q → o.wpIn F nn P a w K Q) (hnd : noDefB ops = true)
    (hN : ∀ t, N t ≠ none → t ∈ ts) (hB : mixB ops ts = true) (hs : Stable N) {L : Array Bool → Act → Prop} {Q' : Exit → Act → World → Prop}
    (hQ : ∀ listed a a' W, Inv ops w0 N listed a a' W → L listed a → wpAnyIn F nn P .any ops Q' g listed a' W) : ∀ (fuel : Nat) (listed : Array Bool) (a a' : Act) (W : World), Inv ops w0 N listed a a' W →
    gAnyL .any ops (MixD P ops w0 N) (fun o => o.dst.bind N = none) n L fuel listed a → wpAnyIn F nn P .any ops Q' (fuel + g) listed a' W
  | 0, listed, a, a', W, hI, h => by rw [Nat.zero_add]; exact hQ listed a a' W hI h
  | fuel + 1, listed, a, a', W, hI, h => by
    rw [show fuel + 1 + g = (fuel + g) + 1 by omega]
    refine ⟨fun h0 => absurd h0 h.1, fun i hi => ?_⟩
    have hh := (h.2 i hi).2
    obtain ⟨_, o, ho, _⟩ := mem_ready.1 hi
    unfold gOp at hh
    unfold wpOpIn
    simp only [ho] at hh ⊢
    rw [hI.wanted hN hB ho]
    split
    · rename_i hw
      simp only [hw, if_true] at hh
      obtain ⟨v, hD, hK⟩ := hh
      refine hop _ _ _ _ _ (noDefB_spec hnd ho) ?_
      have hT := hI.look hN hB ho hi
      unfold Oper.wp
      unfold MixD at hD
      cases hd : o.dst.bind N with
      | none =>
        rw [hd] at hD
        have h3 := hD W a' hI.up hT
        generalize (execOp a'.eval o).run P W = r at *
        cases r with
        | ok n W' =>
          cases n <;> simp only [QuietUpon] at h3 <;> simp only [Oper.upon]
          case value u => obtain ⟨hu, rfl⟩ := h3; exact wpAnyIn_of_mixL hfn hop hnd hN hB hs hQ fuel _ _ _ _ (hI.quiet hs hu ho hd u) hK
          case skip => obtain ⟨hu, rfl⟩ := h3; exact wpAnyIn_of_mixL hfn hop hnd hN hB hs hQ fuel _ _ _ _ (hI.quiet hs hu ho hd _) hK
          case enter f args => exact h3.mono fun e W'' ⟨u, he, hu, hv⟩ => by subst he; subst hv; exact wpAnyIn_of_mixL hfn hop hnd hN hB hs hQ fuel _ _ _ _ (hI.quiet hs hu ho hd u) hK
          case row => exact Rows.mono h3 fun u W'' ⟨hu, hv⟩ => by subst hv; exact wpAnyIn_of_mixL hfn hop hnd hN hB hs hQ fuel _ _ _ _ (hI.quiet hs hu ho hd u) hK
        | halt x W' => simp only [QuietUpon] at h3
      | some R =>
        rw [hd] at hD
        obtain ⟨t, ht, hNt⟩ := Option.bind_eq_some_iff.1 hd
        have h3 := hD W a' hI.up hT
        generalize (execOp a'.eval o).run P W = r at *
        cases r with
        | ok n W' =>
          cases n <;> simp only [QuietUpon] at h3 <;> simp only [Oper.upon]
          case value u => exact wpAnyIn_of_mixL hfn hop hnd hN hB hs hQ fuel _ _ _ _ (hI.noisy hs h3.1 ho ht hNt v u h3.2) hK
          case skip => exact wpAnyIn_of_mixL hfn hop hnd hN hB hs hQ fuel _ _ _ _ (hI.noisy hs h3.1 ho ht hNt v _ h3.2) hK
          case enter f args => exact h3.mono fun e W'' ⟨u, he, hu, hv⟩ => by subst he; exact wpAnyIn_of_mixL hfn hop hnd hN hB hs hQ fuel _ _ _ _ (hI.noisy hs hu ho ht hNt v u hv) hK
          case row => exact Rows.mono h3 fun u W'' ⟨hu, hv⟩ => wpAnyIn_of_mixL hfn hop hnd hN hB hs hQ fuel _ _ _ _ (hI.noisy hs hu ho ht hNt v u hv) hK
        | halt x W' => simp only [QuietUpon] at h3
    · rename_i hw
      simp only [hw] at hh
      exact ⟨fun f _ => hfn f, wpAnyIn_of_mixL hfn hop hnd hN hB hs hQ fuel _ _ _ _ (hI.quiet hs (Up.refl _) ho hh.1 undef) hh.2⟩
theorem wpIn_region_mixF {id : Nat} {Q : Exit → Act → World → Prop} {a : Act} {w : World} {l : List Oper} (hfn : ∀ f, F.fn f) (hop : ∀ (o : Oper) (a : Act) (w : World) (K : Act → World → Prop) (Q : Exit → Act → World → Prop), (∀ c, o.op ≠ .defer c) → o.wp P a w K Q → o.wpIn F nn P a w K Q)
    (n : Nat) (NS : List (Tmp × (Value → World → Prop))) (ts : List Tmp) (hts : NS.map (·.1) = ts) (hm : P.follows .mixedOrders = true)
    (hB : (noDefB l.toArray && (Region.lexTailB .any l.toArray n && mixB l.toArray ts && aheadB l.toArray ts n && decide ts.Nodup)) = true) (hin : ∀ t ∈ ts, t < a.tmps.size) (hs : ∀ p ∈ NS, ∀ v W W', p.2 v W → Up W W' → p.2 v W')
    (h : gLex l.toArray (MixD P l.toArray w (nOf NS)) (fun o => o.dst.bind (nOf NS) = none) (fun b => ∀ W, Up w W → fin NS (fun b' => wpListIn F nn P l.toArray Q (l.drop n) b' W) b W) (l.take n) a) : (Code.region id l.toArray true).wpIn F nn P Q a w := by
  simp only [Bool.and_eq_true, decide_eq_true_eq] at hB
  obtain ⟨hnd, ⟨⟨h1, h2⟩, h3⟩, h4⟩ := hB
  simp only [Region.lexTailB, Bool.and_eq_true, decide_eq_true_eq] at h1
  obtain ⟨⟨⟨⟨hsel, hn⟩, hsk⟩, hc⟩, hlex⟩ := h1
  have hn' : n < l.length := by simpa using hn
  have htl : (l.take n).length = n := by simp; omega
  have hdl : (l.drop n).length = l.toArray.size - n := by simp
  have inv0 : HeadInv .any l.toArray n (Array.replicate l.toArray.size false) :=
    ⟨by simp, fun j oj _ hl => (by rw [getD_replicate_false] at hl; cases hl), fun t _ ht => getD_in (by simpa using ht) (getD_replicate_false _ _)⟩
  have hN : ∀ t, nOf NS t ≠ none → t ∈ ts := fun t ht => by
    cases hcc : nOf NS t with
    | none => exact absurd hcc ht
    | some R =>
      rw [← hts]
      exact List.mem_map.2 ⟨_, nOf_mem hcc, rfl⟩
  have hst : Stable (nOf NS) := fun t R hR v W W' hv hu => hs _ (nOf_mem hR) v W W' hv hu
  have H := gAnyL_lex (md := .any) (D := MixD P l.toArray w (nOf NS)) (Z := fun o => o.dst.bind (nOf NS) = none) (g := l.toArray.size - n) mix_resp hsel hsk hc hn (l.take n) 0 _ a (fun j hj => by
    have hj' : j < n := by rw [htl] at hj; exact hj
    simp [hj']) (by simpa using htl) inv0 (by rw [htl]; exact hlex) h
  refine wpIn_region_any hm ?_
  have := wpAnyIn_of_mixL (F := F) (nn := nn) (N := nOf NS) (w0 := w) (n := n) (g := l.toArray.size - n) (Q' := Q) hfn hop hnd hN h2 hst (fun listed b b' W hI hL => by
    obtain ⟨inv, hsq, hq⟩ := hL
    have hall := seq_all hsk hc hn inv (by omega) hsq
    have hf : wpListIn F nn P l.toArray Q (l.drop n) b' W := by
      refine fin_of hI.size hI.defers (fun t ht => hI.same t ?_) (fun p hp => ?_) (hq W hI.up)
      · cases hcc : nOf NS t with
        | none => rfl
        | some R => exact absurd rfl (ht _ (nOf_mem hcc))
      · have hk := nOf_of (NS := NS) (by rw [hts]; exact h4) p hp
        have hpt : p.1 ∈ ts := by rw [← hts]; exact List.mem_map.2 ⟨p, hp, rfl⟩
        obtain ⟨k, hkr, hkd⟩ := List.any_eq_true.1 (List.all_eq_true.1 h3 p.1 hpt)
        have hkd : (l.toArray[k]?).bind (·.dst) = some p.1 := by simpa using hkd
        obtain ⟨ok, hok, hdst⟩ := Option.bind_eq_some_iff.1 hkd
        exact hI.told k ok p.1 p.2 hok hdst hk (hall k (List.mem_range.1 hkr))
    have := wpAnyIn_of_seq (md := .any) (Q' := Q) (l.drop n) n listed b' W (fun j => by simp [List.getElem?_drop]) (by rw [hdl]; exact hsq) hf
    rwa [hdl] at this) _ _ a a { w with drawn := w.drawn + 1 } ⟨by simp, (Up.refl w).drew, rfl, rfl, fun t ht => hin t (hN t ht), fun _ _ => rfl, fun i o t R ho _ _ hl => by
      rw [show (Array.replicate l.toArray.size false).getD i false = false by
        simp only [Array.getD]
        split
        · simp
        · rfl] at hl
      cases hl⟩ H
  rw [htl, show n + (l.toArray.size - n) = l.toArray.size by omega] at this
  exact this
end
theorem wpIn_region_mixT {lb nn : Nat} {P : Program} {id : Nat} {Q : Exit → Act → World → Prop} {a : Act} {w : World} {l : List Oper} (n : Nat) (NS : List (Tmp × (Value → World → Prop))) (ts : List Tmp) (hts : NS.map (·.1) = ts) (hm : P.follows .mixedOrders = true)
    (hB : (noDefB l.toArray && (Region.lexTailB .any l.toArray n && mixB l.toArray ts && aheadB l.toArray ts n && decide ts.Nodup)) = true) (hin : ∀ t ∈ ts, t < a.tmps.size) (hs : ∀ p ∈ NS, ∀ v W W', p.2 v W → Up W W' → p.2 v W')
    (h : gLex l.toArray (MixD P l.toArray w (nOf NS)) (fun o => o.dst.bind (nOf NS) = none) (fun b => ∀ W, Up w W → fin NS (fun b' => wpListIn (Fence.wide.inRound lb) nn P l.toArray Q (l.drop n) b' W) b W) (l.take n) a) : (Code.region id l.toArray true).wpIn (Fence.wide.inRound lb) nn P Q a w :=
  wpIn_region_mixF (fun _ => trivial) (fun o a w K Q hd h => oper_in hd h) n NS ts hts hm hB hin hs h
end Go.Proofs.YtamfjgioajmnpaaGreatDoor
namespace Go.Proofs.YtamfjgioajmnpaaGreatDoor
open Go.RowKit Go.Shelf
set_option linter.unusedVariables false
set_option linter.unusedSimpArgs false
attribute [local go_sem] Oper.semAt_some

theorem enters_fields13 : ∀ args w, (callFunc 303 args).run Tryz.prog w = .ok (.enter 303 args) w := enters_of Tryz.func303 (by kernel_rfl) rfl
theorem fields_val13 (v : Option Addr) (w : World) :
    Calls Tryz.prog 257 #[.pointer v] w fun e w' => ∃ b, e = .returned (.func (.func 303) #[] #[.pointer (some ⟨b, 0, none⟩)]) ∧ w.heap.size ≤ b ∧ b < w'.heap.size ∧ w'.cell? ⟨b, 0, none⟩ = some (.pointer v) ∧ w'.frozen? ⟨b, 0, none⟩ = false ∧ Up w w' := by
  go_enter Tryz.func257, Tryz.ntmps257
  go_wp2
  go_ret
  exact ⟨w.heap.size, rfl, Nat.le_refl _, by simp, by simp [go_sem], by simp [go_sem], by (repeat (first | with_reducible exact Up.refl _ | with_reducible refine Up.alloc ?_ _ | with_reducible refine Up.drew ?_ | with_reducible refine Up.drewN ?_ _ | with_reducible refine Up.setCell ?_ (by (try simp) <;> omega) _ | with_reducible assumption | with_reducible refine Up.trans ?_ (by assumption)))⟩
/-- a field: its attribute's place, and the attribute -/
def encF (x : Int × Int) : Array Value := #[.int .i64 x.1, .agg #[.bool (fP x.2), .bool (fN x.2), .int .i64 (fD x.2), .bool (fM x.2)]]
/-- a space of which something holds -/
def FldG (f : Nat → Bool) (p m : Nat) (pre : List (Int × Int)) (x : Int × Int) (W : World) : Prop :=
  pre.map (·.1) ++ [x.1] <+: those f m ∧ ∀ g Y, SAt W p g Y → Y.Ok → Y.L.length = m → (Y.at_ x.1).fa = x.2
theorem SAt.at_eq {w : World} {p g g' : Nat} {X X' : Spc} (h : SAt w p g X) (h' : SAt w p g' X') (ok : X.Ok) (ok' : X'.Ok) (k : Nat) (hk : k < X.L.length) : X.at_ (k : Int) = X'.at_ (k : Int) := by
  obtain ⟨e1, -, e3⟩ := h.cells_eq h'
  have h1 := Spc.at_nat ok hk
  have h2 := Spc.at_nat ok' (show k < X'.L.length by omega)
  rw [e3 k, h2] at h1
  injection h1 with h1
  exact h1.symm
/-- how the inner loop stands -/
structure FtI (J : (Nat → Prop) → List (Int × Int) → World → Prop) (p b1 b2 : Nat) (l : Nat) (N : Nat → Prop) (pre : List Int) (W : World) : Prop where
  j : ∃ ys : List (Int × Int), ys.map (·.1) = pre ∧ J (fun k => N k ∨ k = b1 ∨ k = b2) ys W
  c1 : W.cell? ⟨b1, 0, none⟩ = some (.func (.yield l) #[] #[])
  c2 : W.cell? ⟨b2, 0, none⟩ = some (.pointer (some ⟨p, 0, none⟩))
  n1 : ¬ N b1
  n2 : ¬ N b2
theorem FtI.own {J : (Nat → Prop) → List (Int × Int) → World → Prop} {p b1 b2 l : Nat} (hJ : Own2 J) : Own2 (FtI J p b1 b2 l) := by
  rintro N N' s W W' ⟨⟨ys, hy, h1⟩, h2, h3, h4, h5⟩ hk hn
  have z1 := cell_lt h2
  have z2 := cell_lt h3
  refine ⟨⟨ys, hy, hJ _ _ _ _ _ h1 (hk.mono fun k h => .inl h) ?_⟩, ((hk.at_ b1 z1 h4).1 0).trans h2, ((hk.at_ b2 z2 h5).1 0).trans h3, fun h => ?_, fun h => ?_⟩
  · rintro k (h | h | h)
    · rcases hn k h with h | h
      · exact .inl (.inl h)
      · exact .inr h
    · exact .inl (.inr (.inl h))
    · exact .inl (.inr (.inr h))
  · rcases hn _ h with h | h
    · exact h4 h
    · have : b1 < W.heap.size := z1; omega
  · rcases hn _ h with h | h
    · exact h5 h
    · have : b2 < W.heap.size := z2; omega

set_option maxRecDepth 100000 in
set_option maxHeartbeats 6400000 in
theorem fields_it {p m b : Nat} {f : Nat → Bool} {Q : Spc → Prop} (hQ : ∀ X, Q X → HasAt f m X) : ItN Tryz.prog 303 #[.pointer (some ⟨b, 0, none⟩)] encF (fun _ => False) (fun _ => True) (SeeS p m b Q) (FldG f p m) (fun xs => xs.map (·.1) = those f m) (fun pre => pre.map (·.1) <+: those f m) := by
  intro k l J Jx N0 W hJ hJx hV hT hNz hV0 hY h0
  refine callsIn_of_wp_marks Tryz.func303 rfl trivial ?_ rfl
  simp only [Tryz.ntmps303, List.size_toArray, List.length_cons, List.length_nil, Nat.reduceAdd, Nat.reduceSub, Array.replicate_succ, Array.replicate_zero, List.push_toArray, List.append_toArray, List.nil_append, List.cons_append]
  obtain ⟨g, X, hs, ok, hm, hq, hb⟩ := hV _ _ _ h0
  have zb := cell_lt hb
  have HY := Lib.hid hY
  have HJ := Lib.hid hJ
  have HJx := Lib.hid hJx
  have HVV := Lib.hid hV
  have H0 := Lib.hid h0
  clear hY hJ hJx hV h0 hT hV0 hs ok hm hq
  refine wpIn_wide.2 ?_
  go_wp2_with fail
  refine (attrs_val _ _).mono ?_
  rintro e w3 ⟨b2, rfl, hb2, hb2', hc2, -, hu3⟩
  simp at hb2
  have c1 : w3.cell? ⟨W.heap.size, 0, none⟩ = some (.func (.yield l) #[] #[]) := ((hu3.at_ W.heap.size (by simp)).1 0).trans (by simp [go_sem])
  have hUW := ((Up.refl W).alloc (.cells #[.func (.yield l) #[] #[]] 394)).trans hu3
  have HI0 := Lib.hid (show FtI J p W.heap.size b2 l N0 [] w3 from ⟨⟨[], rfl, HJ.out _ _ _ _ _ H0.out (Keep.of_up hUW) (fun k hk => by rcases hk with h | h | h; exact .inl h; exact .inr (by have := hu3.size; simp at this; omega); exact .inr (by omega))⟩, c1, hc2, fun h => by have := hNz _ h; omega, fun h => by have := hNz _ h; omega⟩)
  clear hu3 hUW c1 hc2
  go_wp2_with fail
  refine wpIn_wide.1 (range_n (n := k) (gf := 351) (lb := #[.pointer (some ⟨b2, 0, none⟩)]) rfl enters_attrs (attrs_it (p := p) (m := m) (b := b2) (Q := Q) hQ) (fun _ => rfl)
    N0 (fun k hk => by have := hNz k hk; omega) (fun k hk => hk.elim) (fun _ _ => trivial)
    (FtI J p W.heap.size b2 l) (fun c N xs W' => match c with | .ret => ∃ ys : List (Int × Int), ys.map (·.1) = xs ∧ Jx N ys W' | _ => False)
    (FtI.own HJ.out) ?ownx ?see HI0.out
    (fun pre x a' N W' => pre ++ [x] <+: those f m ∧ a' = { tmps := #[.func (.yield l) #[] #[], .pointer (some ⟨b, 0, none⟩), .pointer (some ⟨W.heap.size, 0, none⟩), .int .i64 x, .pointer (some ⟨p, 0, none⟩), .func (.func 351) #[] #[.pointer (some ⟨b2, 0, none⟩)], .int .i64 x, undef, undef, undef, undef, undef, undef, undef, undef, undef], defers := [] })
    (fun _ _ _ _ _ _ _ _ h _ _ => h) ?assign ?body ?done ?stop)
  case ownx =>
    intro c N N' xs A A' h hk hn
    cases c
    case ret =>
      obtain ⟨ys, h1, h2⟩ := h
      exact ⟨ys, h1, HJx.out _ _ _ _ _ h2 hk hn⟩
    all_goals exact h.elim
  case see =>
    rintro N pre A ⟨⟨ys, hy, h1⟩, h2, h3, h4, h5⟩
    obtain ⟨g', X', a1, a2, a3, a4, a5⟩ := HVV.out _ _ _ h1
    exact ⟨g', X', a1, a2, a3, a4, h3⟩
  case assign =>
    rintro ll N pre x A K hz hI hG hK
    have HI := Lib.hid hI
    have HG := Lib.hid hG
    clear hI hG
    gi_wp2
    exact hK _ _ (Held.refl _ _) HI.out ⟨HG.out, rfl⟩
  case body =>
    rintro ll N pre x a' A hl hr hz hI ⟨hG, rfl⟩
    obtain ⟨ys, hys, hj⟩ := hI.j
    obtain ⟨g', Y, hs, ok, hm, hq, hbb⟩ := HVV.out _ _ _ hj
    have hmem : x ∈ those f m := hG.subset (by simp)
    obtain ⟨kx, rfl, hkx, -⟩ := mem_those.1 hmem
    obtain ⟨d, hd⟩ : ∃ d, Y.at_ (kx : Int) = d := ⟨_, rfl⟩
    have hfa := Spc.fa_at ok (kx : Int)
    rw [hd] at hfa
    have HAT := Lib.hid (fun W' (hu : Up A W') => sat_op (kx : Int) (hs.up hu) ok hd)
    have HOF := Lib.hid (fun W => of_any d.fa W hfa.1 hfa.2)
    have fC := fldC2
    have k1 := hI.c1
    have z1 := cell_lt k1
    simp only at z1
    have zbb := cell_lt hbb
    have HG2 := Lib.hid (fun W' (hu : Up A W') => show FldG f p m ys ((kx : Int), d.fa) W' from ⟨by rw [hys]; exact hG, fun g2 Y2 h2 ok2 hm2 => by
      have := (hs.up hu).at_eq h2 ok ok2 kx (by omega)
      simp only
      rw [← this, hd]⟩)
    have HJY := Lib.hid (fun W' (hu : Up A W') => HJ.out.up hj hu)
    have HI := Lib.hid hI
    have HYS := Lib.hid hys
    have HZ := Lib.hid hz
    clear hI hz hr hl hj hs ok hm hq hd hfa hmem hG hys
    have k2 := hbb
    simp only at zbb
    gi_wp2
    refine wpIn_region_mixT 7 (NS := []) [] rfl (by kernel_rfl) (by kernel_rfl) (by simp) (by simp) ?_
    simp only [List.take_succ_cons, List.take_zero, List.drop_succ_cons, List.drop_zero]
    repeat (first
      | (refine mix_skip rfl rfl ?_; simp only [Act.put, List.setIfInBounds_toArray, List.set_cons_succ, List.set_cons_zero])
      | (refine mix_q rfl rfl rfl (by kernel_rfl) rfl rfl rfl ?_
         apply Exists.intro
         refine ⟨fun Wm => ?_, ?_⟩
         · simp only [fin]
           skip
           intro K hK
           go_wp2_with ((first | (go_at_call 42; (with_reducible refine (HAT.out _ (up_upOf _ _)).mono ?_); rintro e w' ⟨rfl, hux⟩) | (go_at_call 238; (with_reducible refine (HOF.out _).mono ?_); rintro e w' ⟨rfl, hux⟩)))
           refine hK _ _ ?_ ?_ ?_
           · (repeat (first | with_reducible exact Up.refl _ | with_reducible refine Up.alloc ?_ _ | with_reducible refine Up.drew ?_ | with_reducible refine Up.drewN ?_ _ | with_reducible refine Up.setCell ?_ (by (try simp) <;> omega) _ | with_reducible assumption | with_reducible refine Up.trans ?_ (by assumption)))
           · rfl
           · exact tmps_at rfl
         simp only [Act.put, List.setIfInBounds_toArray, List.set_cons_succ, List.set_cons_zero]))
    refine mix_nil ?_
    intro w9 hb_w9
    simp only [fin]
    obtain ⟨fn, tmps, assign, body, hy, hR⟩ := YieldAt.any (m' := k - 1 - 1 - 1) (HY.out _ ys ((kx : Int), d.fa) w9 (HJY.out _ hb_w9) (HG2.out _ hb_w9))
    have HRR := Lib.hid hR
    have HB9 := Lib.hid hb_w9
    clear hR hb_w9
    simp only [encF] at hy
    gi_wp2
    refine ⟨fun h => by simp [Fence.wide, Fence.inRound] at h, ?_⟩
    refine (RoundIn.inR HRR.out).mono ?_
    rintro e A' (⟨rfl, hJ', hh⟩ | ⟨rfl, hJ', hh⟩)
    · have HJ' := Lib.hid hJ'
      have HH := Lib.hid hh
      clear hJ' hh hy
      gi_wp2
      have h9 : Held N A w9 := Held.of_up HB9.out HZ.out
      refine ⟨h9.trans (HH.out.mono fun k h => .inl h), ?_⟩
      have h := HI.out
      have e1 : A'.heap[W.heap.size]? = w9.heap[W.heap.size]? := HH.out _ (.inr (.inl rfl))
      have e2 : A'.heap[b2]? = w9.heap[b2]? := HH.out _ (.inr (.inr rfl))
      exact ⟨⟨_, by rw [List.map_append, HYS.out]; rfl, HJ'.out⟩, (World.cell?_of_block (a := ⟨W.heap.size, 0, none⟩) e1).trans (((HB9.out.at_ _ (cell_lt h.c1)).1 0).trans h.c1), (World.cell?_of_block (a := ⟨b2, 0, none⟩) e2).trans (((HB9.out.at_ _ (cell_lt h.c2)).1 0).trans h.c2), h.n1, h.n2⟩
    · have HJ' := Lib.hid hJ'
      have HH := Lib.hid hh
      clear hJ' hh hy
      gi_wp2
      have h9 : Held N A w9 := Held.of_up HB9.out HZ.out
      exact ⟨h9.trans (HH.out.mono fun k h => .inl h), _, by rw [List.map_append, HYS.out]; rfl, HJx.out.less HJ'.out fun k h => .inl h⟩
  case done =>
    rintro Dd N xs A hD hND hN0 hS hI hK
    have HI := Lib.hid hI
    have HS := Lib.hid hS
    have HK := Lib.hid hK
    have HN0 := Lib.hid hN0
    have HND := Lib.hid hND
    clear hI hS hK hN0 hND
    go_wp2
    refine ⟨by simp, .inl ⟨_, _, rfl, run_takeDeferred HK.out, ?_⟩⟩
    obtain ⟨ys, hy, h⟩ := HI.out.j
    exact ⟨_, results_none rfl _ _ _, ⟨_, rfl⟩, .inl ⟨ys, hy.trans HS.out, HJ.out.less (HJ.out _ _ _ _ _ h (keep_put _ (.inl HND.out)) (fun k hk => .inl hk)) (fun k hk => .inl (HN0.out k hk))⟩⟩
  case stop =>
    rintro Dd N c pre A hD hND hN0 hSp hIx hK
    cases c
    case ret =>
      refine wpIn_wide.2 ?_
      have HI := Lib.hid hIx
      have HK := Lib.hid hK
      have HN0 := Lib.hid hN0
      have HND := Lib.hid hND
      have HSP := Lib.hid hSp
      clear hIx hK hN0 hND hSp
      go_wp2
      refine ⟨by simp, .inl ⟨_, _, rfl, run_takeDeferred HK.out, ?_⟩⟩
      obtain ⟨ys, hy, h⟩ := HI.out
      exact ⟨_, results_none rfl _ _ _, ⟨_, rfl⟩, .inr ⟨ys, by rw [hy]; exact HSP.out, HJx.out.less (HJx.out _ _ _ _ _ h (keep_put _ HND.out) (fun k hk => .inl hk)) (fun k hk => HN0.out k hk)⟩⟩
    all_goals exact hIx.elim
end Go.Proofs.YtamfjgioajmnpaaGreatDoor
namespace Go.Proofs.YtamfjgioajmnpaaGreatDoor
open Go.RowKit Go.Shelf
set_option linter.unusedVariables false
set_option linter.unusedSimpArgs false
attribute [local go_sem] Oper.semAt_some

theorem enters_modified13 : ∀ args w, (callFunc 260 args).run Tryz.prog w = .ok (.enter 260 args) w := enters_of Tryz.func260 (by kernel_rfl) rfl
theorem modified_val13 (v : Option Addr) (w : World) :
    Calls Tryz.prog 209 #[.pointer v] w fun e w' => ∃ b, e = .returned (.func (.func 260) #[] #[.pointer (some ⟨b, 0, none⟩)]) ∧ w.heap.size ≤ b ∧ b < w'.heap.size ∧ w'.cell? ⟨b, 0, none⟩ = some (.pointer v) ∧ w'.frozen? ⟨b, 0, none⟩ = false ∧ Up w w' := by
  go_enter Tryz.func209, Tryz.ntmps209
  go_wp2
  go_ret
  exact ⟨w.heap.size, rfl, Nat.le_refl _, by simp, by simp [go_sem], by simp [go_sem], by (repeat (first | with_reducible exact Up.refl _ | with_reducible refine Up.alloc ?_ _ | with_reducible refine Up.drew ?_ | with_reducible refine Up.drewN ?_ _ | with_reducible refine Up.setCell ?_ (by (try simp) <;> omega) _ | with_reducible assumption | with_reducible refine Up.trans ?_ (by assumption)))⟩
/-- how the inner loop stands -/
structure MdI (J : (Nat → Prop) → List Int → World → Prop) (hx : Int → Bool) (p b1 b2 : Nat) (l : Nat) (N : Nat → Prop) (pre : List (Int × Int)) (W : World) : Prop where
  j : J (fun k => N k ∨ k = b1 ∨ k = b2) ((pre.map (·.1)).filter hx) W
  c1 : W.cell? ⟨b1, 0, none⟩ = some (.func (.yield l) #[] #[])
  c2 : W.cell? ⟨b2, 0, none⟩ = some (.pointer (some ⟨p, 0, none⟩))
  n1 : ¬ N b1
  n2 : ¬ N b2
theorem MdI.own {J : (Nat → Prop) → List Int → World → Prop} {hx : Int → Bool} {p b1 b2 l : Nat} (hJ : Own2 J) : Own2 (MdI J hx p b1 b2 l) := by
  rintro N N' s W W' ⟨h1, h2, h3, h4, h5⟩ hk hn
  have z1 := cell_lt h2
  have z2 := cell_lt h3
  refine ⟨hJ _ _ _ _ _ h1 (hk.mono fun k h => .inl h) ?_, ((hk.at_ b1 z1 h4).1 0).trans h2, ((hk.at_ b2 z2 h5).1 0).trans h3, fun h => ?_, fun h => ?_⟩
  · rintro k (h | h | h)
    · rcases hn k h with h | h
      · exact .inl (.inl h)
      · exact .inr h
    · exact .inl (.inr (.inl h))
    · exact .inl (.inr (.inr h))
  · rcases hn _ h with h | h
    · exact h4 h
    · have : b1 < W.heap.size := z1; omega
  · rcases hn _ h with h | h
    · exact h5 h
    · have : b2 < W.heap.size := z2; omega
theorem filter_snoc (hx : Int → Bool) (pre : List (Int × Int)) (y : Int × Int) : ((pre ++ [y]).map (·.1)).filter hx = if hx y.1 then (pre.map (·.1)).filter hx ++ [y.1] else (pre.map (·.1)).filter hx := by
  rw [List.map_append, List.filter_append]
  by_cases h : hx y.1 = true
  · rw [if_pos h]; simp [h]
  · rw [if_neg h]; simp [h]

set_option maxRecDepth 100000 in
set_option maxHeartbeats 6400000 in
theorem modified_it {p m b : Nat} {f : Nat → Bool} {hx : Int → Bool} {Q : Spc → Prop} (hQ : ∀ X, Q X → HasAt f m X ∧ ∀ k : Nat, k < m → fM (X.at_ (k : Int)).fa = hx (k : Int)) : ItN Tryz.prog 260 #[.pointer (some ⟨b, 0, none⟩)] (fun x : Int => #[.int .i64 x]) (fun _ => False) (fun _ => True) (SeeS p m b Q) (fun pre x _ => pre ++ [x] <+: (those f m).filter hx) (· = (those f m).filter hx) (· <+: (those f m).filter hx) := by
  intro k l J Jx N0 W hJ hJx hV hT hNz hV0 hY h0
  refine callsIn_of_wp_marks Tryz.func260 rfl trivial ?_ rfl
  simp only [Tryz.ntmps260, List.size_toArray, List.length_cons, List.length_nil, Nat.reduceAdd, Nat.reduceSub, Array.replicate_succ, Array.replicate_zero, List.push_toArray, List.append_toArray, List.nil_append, List.cons_append]
  obtain ⟨g, X, hs, ok, hm, hq, hb⟩ := hV _ _ _ h0
  have zb := cell_lt hb
  have HY := Lib.hid hY
  have HJ := Lib.hid hJ
  have HJx := Lib.hid hJx
  have HVV := Lib.hid hV
  have H0 := Lib.hid h0
  clear hY hJ hJx hV h0 hT hV0 hs ok hm hq
  refine wpIn_wide.2 ?_
  go_wp2_with fail
  refine (fields_val13 _ _).mono ?_
  rintro e w3 ⟨b2, rfl, hb2, hb2', hc2, -, hu3⟩
  simp at hb2
  have c1 : w3.cell? ⟨W.heap.size, 0, none⟩ = some (.func (.yield l) #[] #[]) := ((hu3.at_ W.heap.size (by simp)).1 0).trans (by simp [go_sem])
  have hUW := ((Up.refl W).alloc (.cells #[.func (.yield l) #[] #[]] 278)).trans hu3
  have HI0 := Lib.hid (show MdI J hx p W.heap.size b2 l N0 [] w3 from ⟨HJ.out _ _ _ _ _ H0.out (Keep.of_up hUW) (fun k hk => by rcases hk with h | h | h; exact .inl h; exact .inr (by have := hu3.size; simp at this; omega); exact .inr (by omega)), c1, hc2, fun h => by have := hNz _ h; omega, fun h => by have := hNz _ h; omega⟩)
  clear hu3 hUW c1 hc2
  go_wp2_with fail
  refine wpIn_wide.1 (range_n (n := k) (gf := 303) (lb := #[.pointer (some ⟨b2, 0, none⟩)]) rfl enters_fields13 (fields_it (p := p) (m := m) (b := b2) (f := f) (Q := Q) (fun X h => (hQ X h).1)) (fun _ => rfl)
    N0 (fun k hk => by have := hNz k hk; omega) (fun k hk => hk.elim) (fun _ _ => trivial)
    (MdI J hx p W.heap.size b2 l) (fun c N xs W' => match c with | .ret => ((xs.map (·.1)).filter hx <+: (those f m).filter hx) ∧ Jx N ((xs.map (·.1)).filter hx) W' | _ => False)
    (MdI.own HJ.out) ?ownx ?see HI0.out
    (fun pre x a' N W' => pre.map (·.1) ++ [x.1] <+: those f m ∧ fM x.2 = hx x.1 ∧ ∃ bx, a' = { tmps := #[.func (.yield l) #[] #[], .pointer (some ⟨b, 0, none⟩), .pointer (some ⟨W.heap.size, 0, none⟩), .int .i64 x.1, .pointer (some ⟨bx, 0, none⟩), .pointer (some ⟨p, 0, none⟩), .func (.func 303) #[] #[.pointer (some ⟨b2, 0, none⟩)], .int .i64 x.1, .agg #[.bool (fP x.2), .bool (fN x.2), .int .i64 (fD x.2), .bool (fM x.2)], undef, undef, undef, undef, undef, undef, undef, undef], defers := [] } ∧
      W'.cell? ⟨bx, 3, none⟩ = some (.bool (fM x.2)) ∧ ¬ N bx)
    ?ownax ?assign ?body ?done ?stop)
  case ownx =>
    intro c N N' xs A A' h hk hn
    cases c
    case ret => exact ⟨h.1, HJx.out _ _ _ _ _ h.2 hk hn⟩
    all_goals exact h.elim
  case see =>
    rintro N pre A ⟨h1, h2, h3, h4, h5⟩
    obtain ⟨g', X', a1, a2, a3, a4, a5⟩ := HVV.out _ _ _ h1
    exact ⟨g', X', a1, a2, a3, a4, h3⟩
  case ownax =>
    rintro pre x a' N N' _ A A' ⟨h1, h2, bx, h4, h5, h6⟩ hk hn
    have zx := cell_lt h5
    exact ⟨h1, h2, bx, h4, ((hk.at_ bx zx h6).1 3).trans h5, fun h => by
      rcases hn _ h with h | h
      · exact h6 h
      · have : bx < A.heap.size := zx; omega⟩
  case assign =>
    rintro ll N pre ⟨x, fa⟩ A K hz hI hG hK
    obtain ⟨g', X', a1, a2, a3, a4, a5⟩ := HVV.out _ _ _ hI.j
    have hmem : x ∈ those f m := hG.1.subset (by simp)
    obtain ⟨kx, rfl, hkx, -⟩ := mem_those.1 hmem
    have hfa := hG.2 g' X' a1 a2 a3
    have hfm := (hQ X' a4).2 kx hkx
    simp only at hfa
    rw [hfa] at hfm
    have HI := Lib.hid hI
    have HN := Lib.hid hz
    have HG := Lib.hid hG.1
    have HFM := Lib.hid hfm
    clear hI hz hG a1 a2 a3 a4 a5 hmem hfa hfm
    simp only [encF]
    gi_wp2
    refine hK _ _ (Held.of_up (show Up A _ by (repeat (first | with_reducible exact Up.refl _ | with_reducible refine Up.alloc ?_ _ | with_reducible refine Up.drew ?_ | with_reducible refine Up.drewN ?_ _ | with_reducible refine Up.setCell ?_ (by (try simp) <;> omega) _ | with_reducible assumption | with_reducible refine Up.trans ?_ (by assumption)))) HN.out) ((MdI.own HJ.out).up HI.out (by (repeat (first | with_reducible exact Up.refl _ | with_reducible refine Up.alloc ?_ _ | with_reducible refine Up.drew ?_ | with_reducible refine Up.drewN ?_ _ | with_reducible refine Up.setCell ?_ (by (try simp) <;> omega) _ | with_reducible assumption | with_reducible refine Up.trans ?_ (by assumption))))) ⟨HG.out, HFM.out, A.heap.size, rfl, by simp [go_sem], fun h => by have := HN.out _ h; omega⟩
  case body =>
    rintro ll N pre ⟨x, fa⟩ a' A hl hr hz hI ⟨hG, hfm, bx, rfl, hbx, hbn⟩
    have HI := Lib.hid hI
    have HN := Lib.hid hz
    have zx := cell_lt hbx
    simp only at hG hfm hbx zx
    have k1 := hI.c1
    have z1 := cell_lt k1
    simp only at z1
    have HP := Lib.hid (show ((pre ++ [(x, fa)]).map (·.1)).filter hx <+: (those f m).filter hx from by
      rw [List.map_append]; exact hG.filter hx)
    clear hI hz hr hl hG
    have HFS := Lib.hid (filter_snoc hx pre (x, fa))
    generalize fP fa = v0 at *
    generalize fN fa = v1 at *
    generalize fD fa = v2 at *
    obtain ⟨b3, hb3⟩ : ∃ b3, fM fa = b3 := ⟨_, rfl⟩
    rw [hb3] at hfm hbx ⊢
    clear hb3
    have HFM := Lib.hid hfm
    clear hfm
    cases b3
    · have HE := Lib.hid (show ((pre ++ [(x, fa)]).map (·.1)).filter hx = (pre.map (·.1)).filter hx by rw [HFS.out, if_neg (by simp only; rw [← HFM.out]; simp)])
      gi_wp2
      refine ⟨fun _ h => (by cases h), ?_⟩
      gi_wp2
      refine ⟨Held.refl _ _, ?_⟩
      have h := HI.out
      refine ⟨?_, h.c1, h.c2, h.n1, h.n2⟩
      rw [HE.out]
      exact h.j
    · have HE := Lib.hid (show ((pre ++ [(x, fa)]).map (·.1)).filter hx = (pre.map (·.1)).filter hx ++ [x] by rw [HFS.out, if_pos (by simp only; rw [← HFM.out])])
      have hP := HP.out
      rw [HE.out] at hP
      obtain ⟨fn, tmps, assign, body, hy, hR⟩ := YieldAt.any (m' := k - 1 - 1 - 1) (HY.out _ _ x A HI.out.j hP)
      have HRR := Lib.hid hR
      clear hR hP
      gi_wp2
      refine ⟨fun h => by simp [Fence.wide, Fence.inRound] at h, ?_⟩
      refine (RoundIn.inR HRR.out).mono ?_
      rintro e A' (⟨rfl, hJ', hh⟩ | ⟨rfl, hJ', hh⟩)
      · have HJ' := Lib.hid hJ'
        have HH := Lib.hid hh
        clear hJ' hh hy
        gi_wp2
        refine ⟨HH.out.mono fun k h => .inl h, ?_⟩
        have h := HI.out
        have e1 : A'.heap[W.heap.size]? = A.heap[W.heap.size]? := HH.out _ (.inr (.inl rfl))
        have e2 : A'.heap[b2]? = A.heap[b2]? := HH.out _ (.inr (.inr rfl))
        refine ⟨?_, (World.cell?_of_block (a := ⟨W.heap.size, 0, none⟩) e1).trans h.c1, (World.cell?_of_block (a := ⟨b2, 0, none⟩) e2).trans h.c2, h.n1, h.n2⟩
        rw [HE.out]
        exact HJ'.out
      · have HJ' := Lib.hid hJ'
        have HH := Lib.hid hh
        clear hJ' hh hy
        gi_wp2
        refine ⟨HH.out.mono fun k h => .inl h, HP.out, ?_⟩
        rw [HE.out]
        exact HJx.out.less HJ'.out fun k h => .inl h
  case done =>
    rintro Dd N xs A hD hND hN0 hS hI hK
    have HI := Lib.hid hI
    have HS := Lib.hid hS
    have HK := Lib.hid hK
    have HN0 := Lib.hid hN0
    have HND := Lib.hid hND
    clear hI hS hK hN0 hND
    go_wp2
    refine ⟨by simp, .inl ⟨_, _, rfl, run_takeDeferred HK.out, ?_⟩⟩
    have h := HI.out.j
    rw [HS.out] at h
    exact ⟨_, results_none rfl _ _ _, ⟨_, rfl⟩, .inl ⟨_, rfl, HJ.out.less (HJ.out _ _ _ _ _ h (keep_put _ (.inl HND.out)) (fun k hk => .inl hk)) (fun k hk => .inl (HN0.out k hk))⟩⟩
  case stop =>
    rintro Dd N c pre A hD hND hN0 hSp hIx hK
    cases c
    case ret =>
      refine wpIn_wide.2 ?_
      have HI := Lib.hid hIx
      have HK := Lib.hid hK
      have HN0 := Lib.hid hN0
      have HND := Lib.hid hND
      clear hIx hK hN0 hND
      go_wp2
      refine ⟨by simp, .inl ⟨_, _, rfl, run_takeDeferred HK.out, ?_⟩⟩
      exact ⟨_, results_none rfl _ _ _, ⟨_, rfl⟩, .inr ⟨_, HI.out.1, HJx.out.less (HJx.out _ _ _ _ _ HI.out.2 (keep_put _ HND.out) (fun k hk => .inl hk)) (fun k hk => HN0.out k hk)⟩⟩
    all_goals exact hIx.elim
end Go.Proofs.YtamfjgioajmnpaaGreatDoor
