/-
  MixT inside a fence: a region that draws its order and holds a yield at its end. No condition.
-/
import Derived.Test.YtjokcfenncogkaaMixT
import Derived.Test.YtjokcfenncogkaaIter
import Derived.Stop.RegionWithIn
namespace Go.Proofs.Ytjokcfenncogkaa
open Go.RowKit
set_option linter.unusedVariables false
set_option linter.unusedSimpArgs false

section
variable {F : Fence} {nn : Nat} {P : Program} {ops : Array Oper} {w0 : World} {N : Tmp → Option (Value → World → Prop)} {md : Region.Mode}
theorem wpAnyIn_of_seq {Q' : Exit → Act → World → Prop} : ∀ (l : List Oper) (k : Nat) (listed : Array Bool) (a : Act) (w : World), (∀ j, l[j]? = ops[k + j]?) →
    Region.seqB md ops l.length k listed = true → wpListIn F nn P ops Q' l a w → wpAnyIn F nn P md ops Q' l.length listed a w
  | [], _, _, _, _, _, hB, h => ⟨by simpa [Region.seqB] using hB, h⟩
  | o :: l, k, listed, a, w, hl, hB, h => by
    have h0 : ops[k]? = some o := by simpa using (hl 0).symm
    simp only [List.length_cons, Region.seqB, Bool.and_eq_true, decide_eq_true_eq] at hB
    refine ⟨fun h1 => (by rw [hB.1] at h1; cases h1), fun i hi => ?_⟩
    rw [hB.1] at hi
    have hik : i = k := by simpa using hi
    subst hik
    have hw : wpOpIn F nn P ops Q' i (wpListIn F nn P ops Q' l) a w := by unfold wpOpIn; simp only [h0]; exact h
    exact wpOpIn_mono (fun a' w' h' => wpAnyIn_of_seq l (i + 1) _ a' w' (fun j => by have := hl (j + 1); simpa [Nat.add_assoc, Nat.add_comm 1 j] using this) hB.2 h') hw
theorem wpAnyIn_of_mixL {n g : Nat} {ts : List Tmp} (hfn : ∀ f, F.fn f) (hop : ∀ (o : Oper) (a : Act) (w : World) (K : Act → World → Prop) (Q : Exit → Act → World → Prop), (∀ c, o.op ≠ .defer c) → o.wp P a w K Q → o.wpIn F nn P a w K Q) (hnd : noDefB ops = true)
    (hN : ∀ t, N t ≠ none → t ∈ ts) (hB : mixB ops ts = true) (hs : Stable N) {L : Array Bool → Act → Prop} {Q' : Exit → Act → World → Prop}
    (hQ : ∀ listed a a' W, Inv ops w0 N listed a a' W → L listed a → wpAnyIn F nn P .any ops Q' g listed a' W) : ∀ (fuel : Nat) (listed : Array Bool) (a a' : Act) (W : World), Inv ops w0 N listed a a' W →
    gAnyL .any ops (MixD P ops w0 N) (fun o => o.dst.bind N = none) n L fuel listed a → wpAnyIn F nn P .any ops Q' (fuel + g) listed a' W
  | 0, listed, a, a', W, hI, h => by rw [Nat.zero_add]; exact hQ listed a a' W hI h
  | fuel + 1, listed, a, a', W, hI, h => by
    rw [show fuel + 1 + g = (fuel + g) + 1 by omega]
    refine ⟨fun h0 => absurd h0 h.1, fun i hi => ?_⟩
    have hh := (h.2 i hi).2
    obtain ⟨_, o, ho, _⟩ := mem_ready.1 hi
    unfold gOp at hh
    unfold wpOpIn
    simp only [ho] at hh ⊢
    rw [hI.wanted hN hB ho]
    split
    · rename_i hw
      simp only [hw, if_true] at hh
      obtain ⟨v, hD, hK⟩ := hh
      refine hop _ _ _ _ _ (noDefB_spec hnd ho) ?_
      have hT := hI.look hN hB ho hi
      unfold Oper.wp
      unfold MixD at hD
      cases hd : o.dst.bind N with
      | none =>
        rw [hd] at hD
        have h3 := hD W a' hI.up hT
        generalize (execOp a'.eval o).run P W = r at *
        cases r with
        | ok n W' =>
          cases n <;> simp only [QuietUpon] at h3 <;> simp only [Oper.upon]
          case value u => obtain ⟨hu, rfl⟩ := h3; exact wpAnyIn_of_mixL hfn hop hnd hN hB hs hQ fuel _ _ _ _ (hI.quiet hs hu ho hd u) hK
          case skip => obtain ⟨hu, rfl⟩ := h3; exact wpAnyIn_of_mixL hfn hop hnd hN hB hs hQ fuel _ _ _ _ (hI.quiet hs hu ho hd _) hK
          case enter f args => exact h3.mono fun e W'' ⟨u, he, hu, hv⟩ => by subst he; subst hv; exact wpAnyIn_of_mixL hfn hop hnd hN hB hs hQ fuel _ _ _ _ (hI.quiet hs hu ho hd u) hK
          case row => exact Rows.mono h3 fun u W'' ⟨hu, hv⟩ => by subst hv; exact wpAnyIn_of_mixL hfn hop hnd hN hB hs hQ fuel _ _ _ _ (hI.quiet hs hu ho hd u) hK
        | halt x W' => simp only [QuietUpon] at h3
      | some R =>
        rw [hd] at hD
        obtain ⟨t, ht, hNt⟩ := Option.bind_eq_some_iff.1 hd
        have h3 := hD W a' hI.up hT
        generalize (execOp a'.eval o).run P W = r at *
        cases r with
        | ok n W' =>
          cases n <;> simp only [QuietUpon] at h3 <;> simp only [Oper.upon]
          case value u => exact wpAnyIn_of_mixL hfn hop hnd hN hB hs hQ fuel _ _ _ _ (hI.noisy hs h3.1 ho ht hNt v u h3.2) hK
          case skip => exact wpAnyIn_of_mixL hfn hop hnd hN hB hs hQ fuel _ _ _ _ (hI.noisy hs h3.1 ho ht hNt v _ h3.2) hK
          case enter f args => exact h3.mono fun e W'' ⟨u, he, hu, hv⟩ => by subst he; exact wpAnyIn_of_mixL hfn hop hnd hN hB hs hQ fuel _ _ _ _ (hI.noisy hs hu ho ht hNt v u hv) hK
          case row => exact Rows.mono h3 fun u W'' ⟨hu, hv⟩ => wpAnyIn_of_mixL hfn hop hnd hN hB hs hQ fuel _ _ _ _ (hI.noisy hs hu ho ht hNt v u hv) hK
        | halt x W' => simp only [QuietUpon] at h3
    · rename_i hw
      simp only [hw] at hh
      exact ⟨fun f _ => hfn f, wpAnyIn_of_mixL hfn hop hnd hN hB hs hQ fuel _ _ _ _ (hI.quiet hs (Up.refl _) ho hh.1 undef) hh.2⟩
theorem wpIn_region_mixF {id : Nat} {Q : Exit → Act → World → Prop} {a : Act} {w : World} {l : List Oper} (hfn : ∀ f, F.fn f) (hop : ∀ (o : Oper) (a : Act) (w : World) (K : Act → World → Prop) (Q : Exit → Act → World → Prop), (∀ c, o.op ≠ .defer c) → o.wp P a w K Q → o.wpIn F nn P a w K Q)
    (n : Nat) (NS : List (Tmp × (Value → World → Prop))) (ts : List Tmp) (hts : NS.map (·.1) = ts) (hm : P.follows .mixedOrders = true)
    (hB : (noDefB l.toArray && (Region.lexTailB .any l.toArray n && mixB l.toArray ts && aheadB l.toArray ts n && decide ts.Nodup)) = true) (hin : ∀ t ∈ ts, t < a.tmps.size) (hs : ∀ p ∈ NS, ∀ v W W', p.2 v W → Up W W' → p.2 v W')
    (h : gLex l.toArray (MixD P l.toArray w (nOf NS)) (fun o => o.dst.bind (nOf NS) = none) (fun b => ∀ W, Up w W → fin NS (fun b' => wpListIn F nn P l.toArray Q (l.drop n) b' W) b W) (l.take n) a) : (Code.region id l.toArray true).wpIn F nn P Q a w := by
  simp only [Bool.and_eq_true, decide_eq_true_eq] at hB
  obtain ⟨hnd, ⟨⟨h1, h2⟩, h3⟩, h4⟩ := hB
  simp only [Region.lexTailB, Bool.and_eq_true, decide_eq_true_eq] at h1
  obtain ⟨⟨⟨⟨hsel, hn⟩, hsk⟩, hc⟩, hlex⟩ := h1
  have hn' : n < l.length := by simpa using hn
  have htl : (l.take n).length = n := by simp; omega
  have hdl : (l.drop n).length = l.toArray.size - n := by simp
  have inv0 : HeadInv .any l.toArray n (Array.replicate l.toArray.size false) :=
    ⟨by simp, fun j oj _ hl => (by rw [getD_replicate_false] at hl; cases hl), fun t _ ht => getD_in (by simpa using ht) (getD_replicate_false _ _)⟩
  have hN : ∀ t, nOf NS t ≠ none → t ∈ ts := fun t ht => by
    cases hcc : nOf NS t with
    | none => exact absurd hcc ht
    | some R =>
      rw [← hts]
      exact List.mem_map.2 ⟨_, nOf_mem hcc, rfl⟩
  have hst : Stable (nOf NS) := fun t R hR v W W' hv hu => hs _ (nOf_mem hR) v W W' hv hu
  have H := gAnyL_lex (md := .any) (D := MixD P l.toArray w (nOf NS)) (Z := fun o => o.dst.bind (nOf NS) = none) (g := l.toArray.size - n) mix_resp hsel hsk hc hn (l.take n) 0 _ a (fun j hj => by
    have hj' : j < n := by rw [htl] at hj; exact hj
    simp [hj']) (by simpa using htl) inv0 (by rw [htl]; exact hlex) h
  refine wpIn_region_any hm ?_
  have := wpAnyIn_of_mixL (F := F) (nn := nn) (N := nOf NS) (w0 := w) (n := n) (g := l.toArray.size - n) (Q' := Q) hfn hop hnd hN h2 hst (fun listed b b' W hI hL => by
    obtain ⟨inv, hsq, hq⟩ := hL
    have hall := seq_all hsk hc hn inv (by omega) hsq
    have hf : wpListIn F nn P l.toArray Q (l.drop n) b' W := by
      refine fin_of hI.size hI.defers (fun t ht => hI.same t ?_) (fun p hp => ?_) (hq W hI.up)
      · cases hcc : nOf NS t with
        | none => rfl
        | some R => exact absurd rfl (ht _ (nOf_mem hcc))
      · have hk := nOf_of (NS := NS) (by rw [hts]; exact h4) p hp
        have hpt : p.1 ∈ ts := by rw [← hts]; exact List.mem_map.2 ⟨p, hp, rfl⟩
        obtain ⟨k, hkr, hkd⟩ := List.any_eq_true.1 (List.all_eq_true.1 h3 p.1 hpt)
        have hkd : (l.toArray[k]?).bind (·.dst) = some p.1 := by simpa using hkd
        obtain ⟨ok, hok, hdst⟩ := Option.bind_eq_some_iff.1 hkd
        exact hI.told k ok p.1 p.2 hok hdst hk (hall k (List.mem_range.1 hkr))
    have := wpAnyIn_of_seq (md := .any) (Q' := Q) (l.drop n) n listed b' W (fun j => by simp [List.getElem?_drop]) (by rw [hdl]; exact hsq) hf
    rwa [hdl] at this) _ _ a a { w with drawn := w.drawn + 1 } ⟨by simp, (Up.refl w).drew, rfl, rfl, fun t ht => hin t (hN t ht), fun _ _ => rfl, fun i o t R ho _ _ hl => by
      rw [show (Array.replicate l.toArray.size false).getD i false = false by
        simp only [Array.getD]
        split
        · simp
        · rfl] at hl
      cases hl⟩ H
  rw [htl, show n + (l.toArray.size - n) = l.toArray.size by omega] at this
  exact this
end
theorem wpIn_region_mixT {lb nn : Nat} {P : Program} {id : Nat} {Q : Exit → Act → World → Prop} {a : Act} {w : World} {l : List Oper} (n : Nat) (NS : List (Tmp × (Value → World → Prop))) (ts : List Tmp) (hts : NS.map (·.1) = ts) (hm : P.follows .mixedOrders = true)
    (hB : (noDefB l.toArray && (Region.lexTailB .any l.toArray n && mixB l.toArray ts && aheadB l.toArray ts n && decide ts.Nodup)) = true) (hin : ∀ t ∈ ts, t < a.tmps.size) (hs : ∀ p ∈ NS, ∀ v W W', p.2 v W → Up W W' → p.2 v W')
    (h : gLex l.toArray (MixD P l.toArray w (nOf NS)) (fun o => o.dst.bind (nOf NS) = none) (fun b => ∀ W, Up w W → fin NS (fun b' => wpListIn (Fence.wide.inRound lb) nn P l.toArray Q (l.drop n) b' W) b W) (l.take n) a) : (Code.region id l.toArray true).wpIn (Fence.wide.inRound lb) nn P Q a w :=
  wpIn_region_mixF (fun _ => trivial) (fun o a w K Q hd h => oper_in hd h) n NS ts hts hm hB hin hs h
end Go.Proofs.Ytjokcfenncogkaa
