/-
  Regions that draw their order, as in Mix, whose last operations (a store) wait for all the others. No condition.
-/
import Derived.Test.YtmnepolfiipfcaaMix
import Derived.StillTail
namespace Go.Proofs.Ytmnepolfiipfcaa
open Go.RowKit
set_option linter.unusedVariables false
set_option linter.unusedSimpArgs false

section comb
variable {ops : Array Oper} {md : Region.Mode} {D : Oper → Act → Value → Prop} {Z : Oper → Prop}
def gAnyL (md : Region.Mode) (ops : Array Oper) (D : Oper → Act → Value → Prop) (Z : Oper → Prop) (n : Nat) (L : Array Bool → Act → Prop) : Nat → Array Bool → Act → Prop
  | 0, listed, a => L listed a
  | f + 1, listed, a => Region.ready md ops listed ≠ [] ∧ ∀ i ∈ Region.ready md ops listed, i < n ∧ gOp ops D Z i (gAnyL md ops D Z n L f (listed.setIfInBounds i true)) a
theorem gAnyL_first (hD : Resp ops D) {n i : Nat} {oi : Oper} {v : Value} {L : Array Bool → Act → Prop} (hi : ops[i]? = some oi) (hsel : ∀ (j : Nat) (o : Oper) cs b, ops[j]? = some o → o.op ≠ .select cs b)
    (hs : Region.sinkB md ops n = true) (hc : Region.chainB md ops n = true) (hn : n < ops.size) (hin : i < n) (hdone : ∀ listed a, L listed a → ∀ j ∈ Region.ready md ops listed, n ≤ j) :
    ∀ (f : Nat) (listed : Array Bool) (a : Act), HeadInv md ops n listed →
      (∀ j oj, ops[j]? = some oj → j ≠ i → listed.getD j true = false → (∀ e ∈ oj.after, Region.binds md e = true → e.on ≠ i) → oi.apart ops oj = true) →
      i ∈ Region.ready md ops listed → Gives ops D Z oi v a →
      gAnyL md ops D Z n L f (listed.setIfInBounds i true) (a.put oi.dst v) → gAnyL md ops D Z n L (f + 1) listed a := by
  intro f
  induction f with
  | zero =>
    intro listed a inv _ hr hy H
    have hun := (mem_ready.1 hr).1
    refine ⟨fun h => (by rw [h] at hr; cases hr), fun j hj => ?_⟩
    have hjn : j < n := by
      rcases Nat.lt_or_ge j n with h | h
      · exact h
      · exact absurd hj (tail_waits hs hc hn inv _ i rfl hin hun j h)
    refine ⟨hjn, ?_⟩
    by_cases hji : j = i
    · subst hji; exact hy.gOp hi H
    · have := hdone _ _ H j (ready_mono hj hji)
      omega
  | succ f ih =>
    intro listed a inv hfree hr hy H
    have hun := (mem_ready.1 hr).1
    refine ⟨fun h => (by rw [h] at hr; cases hr), fun j hj => ?_⟩
    have hjn : j < n := by
      rcases Nat.lt_or_ge j n with h | h
      · exact h
      · exact absurd hj (tail_waits hs hc hn inv _ i rfl hin hun j h)
    refine ⟨hjn, ?_⟩
    by_cases hji : j = i
    · subst hji; exact hy.gOp hi H
    · have h1 := (H.2 j (ready_mono hj hji)).2
      obtain ⟨hjun, oj, hoj, hall⟩ := mem_ready.1 hj
      have hnot : ∀ e ∈ oj.after, Region.binds md e = true → e.on ≠ i := fun e he hb heq => by
        have h1 := hall e he hb
        rw [heq, getD_both hun] at h1
        cases h1
      have h2 := gOp_put hD hoj (hfree j oj hoj hji hjun hnot) (fun cs b => hsel i oi cs b hi) (fun cs b => hsel j oj cs b hoj) hy h1
      have hfree' : ∀ k ok, ops[k]? = some ok → k ≠ i → (listed.setIfInBounds j true).getD k true = false →
          (∀ e ∈ ok.after, Region.binds md e = true → e.on ≠ i) → oi.apart ops ok = true := fun k ok hk hki hun hno => by
        refine hfree k ok hk hki ?_ hno
        by_cases hjk : j = k
        · subst hjk; exact hjun
        · rw [getD_set_ne true hjk] at hun; exact hun
      refine gOp_mono (fun a' h3 => ih (listed.setIfInBounds j true) a' (inv.set hj hjn) hfree' (ready_mono hr (Ne.symm hji)) h3.1 ?_) h2
      rw [Array.setIfInBounds_comm _ _ hji]
      exact h3.2
theorem gAnyL_lex (hD : Resp ops D) {n g : Nat} {Lq : Act → Prop} (hsel : Region.noSelect ops = true) (hs : Region.sinkB md ops n = true) (hc : Region.chainB md ops n = true) (hn : n < ops.size) :
    ∀ (l : List Oper) (k : Nat) (listed : Array Bool) (a : Act), (∀ j, j < l.length → l[j]? = ops[k + j]?) → k + l.length = n → HeadInv md ops n listed →
    Region.lexHead md ops g l.length k listed = true → gLex ops D Z Lq l a →
    gAnyL md ops D Z n (fun listed' a' => HeadInv md ops n listed' ∧ Region.seqB md ops g n listed' = true ∧ Lq a') l.length listed a
  | [], k, listed, a, _, hk, inv, hB, h => by
    have : k = n := by simpa using hk
    subst this
    exact ⟨inv, by simpa [Region.lexHead] using hB, h⟩
  | o :: l, k, listed, a, hl, hk, inv, hB, h => by
    have h0 : ops[k]? = some o := by simpa using (hl 0 (by simp)).symm
    simp only [List.length_cons, Region.lexHead, Bool.and_eq_true] at hB
    obtain ⟨⟨hr, hf⟩, hB'⟩ := hB
    have hkn : k < n := by simp only [List.length_cons] at hk; omega
    have hr' : k ∈ Region.ready md ops listed := by simpa using hr
    have hst : gOp ops D Z k (gLex ops D Z Lq l) a := by unfold gOp; simp only [h0]; exact h
    obtain ⟨v, hy, hK⟩ := gives_of h0 hst
    exact gAnyL_first hD h0 (Region.noSelect_spec hsel) hs hc hn hkn (fun listed' a' hL => seqB_ready hL.2.1) l.length listed a inv (Region.free_spec h0 hf) hr' hy
      (gAnyL_lex hD hsel hs hc hn l (k + 1) _ _ (fun j hj => by have := hl (j + 1) (by simp; omega); simpa [Nat.add_assoc, Nat.add_comm 1 j] using this) (by simp only [List.length_cons] at hk; omega) (inv.set hr' hkn) hB' hK)
end comb

section mixT
variable {P : Program} {ops : Array Oper} {w0 : World} {N : Tmp → Option (Value → World → Prop)}
theorem wpAny_of_mixL {n g : Nat} {ts : List Tmp} (hN : ∀ t, N t ≠ none → t ∈ ts) (hB : mixB ops ts = true) (hs : Stable N) {L : Array Bool → Act → Prop} {Q' : Exit → Act → World → Prop}
    (hQ : ∀ listed a a' W, Inv ops w0 N listed a a' W → L listed a → wpAny P .any ops Q' g listed a' W) : ∀ (fuel : Nat) (listed : Array Bool) (a a' : Act) (W : World), Inv ops w0 N listed a a' W →
    gAnyL .any ops (MixD P ops w0 N) (fun o => o.dst.bind N = none) n L fuel listed a → wpAny P .any ops Q' (fuel + g) listed a' W
  | 0, listed, a, a', W, hI, h => by rw [Nat.zero_add]; exact hQ listed a a' W hI h
  | fuel + 1, listed, a, a', W, hI, h => by
    rw [show fuel + 1 + g = (fuel + g) + 1 by omega]
    refine ⟨fun h0 => absurd h0 h.1, fun i hi => ?_⟩
    have hh := (h.2 i hi).2
    obtain ⟨_, o, ho, _⟩ := mem_ready.1 hi
    unfold gOp at hh
    unfold wpOp
    simp only [ho] at hh ⊢
    rw [hI.wanted hN hB ho]
    split
    · rename_i hw
      simp only [hw, if_true] at hh
      obtain ⟨v, hD, hK⟩ := hh
      refine .inl ?_
      have hT := hI.look hN hB ho hi
      unfold Oper.wp
      unfold MixD at hD
      cases hd : o.dst.bind N with
      | none =>
        rw [hd] at hD
        have h3 := hD W a' hI.up hT
        generalize (execOp a'.eval o).run P W = r at *
        cases r with
        | ok n W' =>
          cases n <;> simp only [QuietUpon] at h3 <;> simp only [Oper.upon]
          case value u => obtain ⟨hu, rfl⟩ := h3; exact wpAny_of_mixL hN hB hs hQ fuel _ _ _ _ (hI.quiet hs hu ho hd u) hK
          case skip => obtain ⟨hu, rfl⟩ := h3; exact wpAny_of_mixL hN hB hs hQ fuel _ _ _ _ (hI.quiet hs hu ho hd _) hK
          case enter f args => exact h3.mono fun e W'' ⟨u, he, hu, hv⟩ => by subst he; subst hv; exact wpAny_of_mixL hN hB hs hQ fuel _ _ _ _ (hI.quiet hs hu ho hd u) hK
          case row => exact Rows.mono h3 fun u W'' ⟨hu, hv⟩ => by subst hv; exact wpAny_of_mixL hN hB hs hQ fuel _ _ _ _ (hI.quiet hs hu ho hd u) hK
        | halt x W' => simp only [QuietUpon] at h3
      | some R =>
        rw [hd] at hD
        obtain ⟨t, ht, hNt⟩ := Option.bind_eq_some_iff.1 hd
        have h3 := hD W a' hI.up hT
        generalize (execOp a'.eval o).run P W = r at *
        cases r with
        | ok n W' =>
          cases n <;> simp only [QuietUpon] at h3 <;> simp only [Oper.upon]
          case value u => exact wpAny_of_mixL hN hB hs hQ fuel _ _ _ _ (hI.noisy hs h3.1 ho ht hNt v u h3.2) hK
          case skip => exact wpAny_of_mixL hN hB hs hQ fuel _ _ _ _ (hI.noisy hs h3.1 ho ht hNt v _ h3.2) hK
          case enter f args => exact h3.mono fun e W'' ⟨u, he, hu, hv⟩ => by subst he; exact wpAny_of_mixL hN hB hs hQ fuel _ _ _ _ (hI.noisy hs hu ho ht hNt v u hv) hK
          case row => exact Rows.mono h3 fun u W'' ⟨hu, hv⟩ => wpAny_of_mixL hN hB hs hQ fuel _ _ _ _ (hI.noisy hs hu ho ht hNt v u hv) hK
        | halt x W' => simp only [QuietUpon] at h3
    · rename_i hw
      simp only [hw] at hh
      exact wpAny_of_mixL hN hB hs hQ fuel _ _ _ _ (hI.quiet hs (Up.refl _) ho hh.1 undef) hh.2
/-- the told temporaries come up ahead of the n-th operation -/
def aheadB (ops : Array Oper) (ts : List Tmp) (n : Nat) : Bool := ts.all fun t => (List.range n).any fun k => (ops[k]?).bind (·.dst) == some t
theorem seq_all {md : Region.Mode} {n g : Nat} {listed : Array Bool} (hs : Region.sinkB md ops n = true) (hc : Region.chainB md ops n = true) (hn : n < ops.size) (inv : HeadInv md ops n listed) (hg : 0 < g) (h : Region.seqB md ops g n listed = true) :
    ∀ k, k < n → listed.getD k false = true := by
  intro k hk
  cases hl : listed.getD k false with
  | true => rfl
  | false =>
    exfalso
    have hr : n ∈ Region.ready md ops listed := by
      obtain ⟨g', rfl⟩ : ∃ g', g = g' + 1 := ⟨g - 1, by omega⟩
      simp only [Region.seqB, Bool.and_eq_true, decide_eq_true_eq] at h
      rw [h.1]; simp
    exact tail_waits hs hc hn inv _ k rfl hk (getD_in (by rw [inv.size]; omega) hl) n (Nat.le_refl _) hr

theorem wp_region_mixT {id : Nat} {Q : Exit → Act → World → Prop} {a : Act} {w : World} {l : List Oper} (n : Nat) (NS : List (Tmp × (Value → World → Prop))) (ts : List Tmp) (hts : NS.map (·.1) = ts) (hm : P.follows .mixedOrders = true)
    (hB : (Region.lexTailB .any l.toArray n && mixB l.toArray ts && aheadB l.toArray ts n && decide ts.Nodup) = true) (hin : ∀ t ∈ ts, t < a.tmps.size) (hs : ∀ p ∈ NS, ∀ v W W', p.2 v W → Up W W' → p.2 v W')
    (h : gLex l.toArray (MixD P l.toArray w (nOf NS)) (fun o => o.dst.bind (nOf NS) = none) (fun b => ∀ W, Up w W → fin NS (fun b' => wpList P l.toArray Q (l.drop n) b' W) b W) (l.take n) a) : (Code.region id l.toArray true).wp P Q a w := by
  simp only [Bool.and_eq_true, decide_eq_true_eq] at hB
  obtain ⟨⟨⟨h1, h2⟩, h3⟩, h4⟩ := hB
  simp only [Region.lexTailB, Bool.and_eq_true, decide_eq_true_eq] at h1
  obtain ⟨⟨⟨⟨hsel, hn⟩, hsk⟩, hc⟩, hlex⟩ := h1
  have hn' : n < l.length := by simpa using hn
  have htl : (l.take n).length = n := by simp; omega
  have hdl : (l.drop n).length = l.toArray.size - n := by simp
  have inv0 : HeadInv .any l.toArray n (Array.replicate l.toArray.size false) :=
    ⟨by simp, fun j oj _ hl => (by rw [getD_replicate_false] at hl; cases hl), fun t _ ht => getD_in (by simpa using ht) (getD_replicate_false _ _)⟩
  have hN : ∀ t, nOf NS t ≠ none → t ∈ ts := fun t ht => by
    cases hcc : nOf NS t with
    | none => exact absurd hcc ht
    | some R =>
      rw [← hts]
      exact List.mem_map.2 ⟨_, nOf_mem hcc, rfl⟩
  have hst : Stable (nOf NS) := fun t R hR v W W' hv hu => hs _ (nOf_mem hR) v W W' hv hu
  have H := gAnyL_lex (md := .any) (D := MixD P l.toArray w (nOf NS)) (Z := fun o => o.dst.bind (nOf NS) = none) (g := l.toArray.size - n) mix_resp hsel hsk hc hn (l.take n) 0 _ a (fun j hj => by
    have hj' : j < n := by rw [htl] at hj; exact hj
    simp [hj']) (by simpa using htl) inv0 (by rw [htl]; exact hlex) h
  refine wp_region_any hm ?_
  have := wpAny_of_mixL (N := nOf NS) (w0 := w) (n := n) (g := l.toArray.size - n) (Q' := Q) hN h2 hst (fun listed b b' W hI hL => by
    obtain ⟨inv, hsq, hq⟩ := hL
    have hall := seq_all hsk hc hn inv (by omega) hsq
    have hf : wpList P l.toArray Q (l.drop n) b' W := by
      refine fin_of hI.size hI.defers (fun t ht => hI.same t ?_) (fun p hp => ?_) (hq W hI.up)
      · cases hcc : nOf NS t with
        | none => rfl
        | some R => exact absurd rfl (ht _ (nOf_mem hcc))
      · have hk := nOf_of (NS := NS) (by rw [hts]; exact h4) p hp
        have hpt : p.1 ∈ ts := by rw [← hts]; exact List.mem_map.2 ⟨p, hp, rfl⟩
        obtain ⟨k, hkr, hkd⟩ := List.any_eq_true.1 (List.all_eq_true.1 h3 p.1 hpt)
        have hkd : (l.toArray[k]?).bind (·.dst) = some p.1 := by simpa using hkd
        obtain ⟨ok, hok, hdst⟩ := Option.bind_eq_some_iff.1 hkd
        exact hI.told k ok p.1 p.2 hok hdst hk (hall k (List.mem_range.1 hkr))
    have := wpAny_of_seq (md := .any) (Q' := Q) (l.drop n) n listed b' W (fun j => by simp [List.getElem?_drop]) (by rw [hdl]; exact hsq) hf
    rwa [hdl] at this) _ _ a a { w with drawn := w.drawn + 1 } ⟨by simp, (Up.refl w).drew, rfl, rfl, fun t ht => hin t (hN t ht), fun _ _ => rfl, fun i o t R ho _ _ hl => by
      rw [show (Array.replicate l.toArray.size false).getD i false = false by
        simp only [Array.getD]
        split
        · simp
        · rfl] at hl
      cases hl⟩ H
  rw [htl, show n + (l.toArray.size - n) = l.toArray.size by omega] at this
  exact this
end mixT
end Go.Proofs.Ytmnepolfiipfcaa
