/-
Regions that draw their order, as in Mix, whose last operations (a store) wait for all the others. No condition.
A screen as plain data, and how the program's lies in memory. No condition.
What space's readers compute. No condition.
-/
import Derived.Test.YtamfjgioajmnpaaGreatDoorJa4
import Derived.StillTail
import Derived.Test.YtamfjgioajmnpaaGreatDoorJa3
namespace Go.Proofs.YtamfjgioajmnpaaGreatDoor
open Go.RowKit
set_option linter.unusedVariables false
set_option linter.unusedSimpArgs false

section comb
variable {ops : Array Oper} {md : Region.Mode} {D : Oper → Act → Value → Prop} {Z : Oper → Prop}
def gAnyL (md : Region.Mode) (ops : Array Oper) (D : Oper → Act → Value → Prop) (Z : Oper → Prop) (n : Nat) (L : Array Bool → Act → Prop) : Nat → Array Bool → Act → Prop
  | 0, listed, a => L listed a
  | f + 1, listed, a => Region.ready md ops listed ≠ [] ∧ ∀ i ∈ Region.ready md ops listed, i < n ∧ gOp ops D Z i (gAnyL md ops D Z n L f (listed.setIfInBounds i true)) a
theorem gAnyL_first (hD : Resp ops D) {n i : Nat} {oi : Oper} {v : Value} {L : Array Bool → Act → Prop} (hi : ops[i]? = some oi) (hsel : ∀ (j : Nat) (o : Oper) cs b, ops[j]? = some o → o.op ≠ .select cs b)
    (hs : Region.sinkB md ops n = true) (hc : Region.chainB md ops n = true) (hn : n < ops.size) (hin : i < n) (hdone : ∀ listed a, L listed a → ∀ j ∈ Region.ready md ops listed, n ≤ j) :
    ∀ (f : Nat) (listed : Array Bool) (a : Act), HeadInv md ops n listed →
      (∀ j oj, ops[j]? = some oj → j ≠ i → listed.getD j true = false → (∀ e ∈ oj.after, Region.binds md e = true → e.on ≠ i) → oi.apart ops oj = true) →
      i ∈ Region.ready md ops listed → Gives ops D Z oi v a →
      gAnyL md ops D Z n L f (listed.setIfInBounds i true) (a.put oi.dst v) → gAnyL md ops D Z n L (f + 1) listed a := by
  intro f
  induction f with
  | zero =>
    intro listed a inv _ hr hy H
    have hun := (mem_ready.1 hr).1
    refine ⟨fun h => (by rw [h] at hr; cases hr), fun j hj => ?_⟩
    have hjn : j < n := by
      rcases Nat.lt_or_ge j n with h | h
      · exact h
      · exact absurd hj (tail_waits hs hc hn inv _ i rfl hin hun j h)
    refine ⟨hjn, ?_⟩
    by_cases hji : j = i
    · subst hji; exact hy.gOp hi H
    · have := hdone _ _ H j (ready_mono hj hji)
      omega
  | succ f ih =>
    intro listed a inv hfree hr hy H
    have hun := (mem_ready.1 hr).1
    refine ⟨fun h => (by rw [h] at hr; cases hr), fun j hj => ?_⟩
    have hjn : j < n := by
      rcases Nat.lt_or_ge j n with h | h
      · exact h
      · exact absurd hj (tail_waits hs hc hn inv _ i rfl hin hun j h)
    refine ⟨hjn, ?_⟩
    by_cases hji : j = i
    · subst hji; exact hy.gOp hi H
    · have h1 := (H.2 j (ready_mono hj hji)).2
      obtain ⟨hjun, oj, hoj, hall⟩ := mem_ready.1 hj
      have hnot : ∀ e ∈ oj.after, Region.binds md e = true → e.on ≠ i := fun e he hb heq => by
        have h1 := hall e he hb
        rw [heq, getD_both hun] at h1
        cases h1
      have h2 := gOp_put hD hoj (hfree j oj hoj hji hjun hnot) (fun cs b => hsel i oi cs b hi) (fun cs b => hsel j oj cs b hoj) hy h1
      have hfree' : ∀ k ok, ops[k]? = some ok → k ≠ i → (listed.setIfInBounds j true).getD k true = false →
          (∀ e ∈ ok.after, Region.binds md e = true → e.on ≠ i) → oi.apart ops ok = true := fun k ok hk hki hun hno => by
        refine hfree k ok hk hki ?_ hno
        by_cases hjk : j = k
        · subst hjk; exact hjun
        · rw [getD_set_ne true hjk] at hun; exact hun
      refine gOp_mono (fun a' h3 => ih (listed.setIfInBounds j true) a' (inv.set hj hjn) hfree' (ready_mono hr (Ne.symm hji)) h3.1 ?_) h2
      rw [Array.setIfInBounds_comm _ _ hji]
      exact h3.2
theorem gAnyL_lex (hD : Resp ops D) {n g : Nat} {Lq : Act → Prop} (hsel : Region.noSelect ops = true) (hs : Region.sinkB md ops n = true) (hc : Region.chainB md ops n = true) (hn : n < ops.size) :
    ∀ (l : List Oper) (k : Nat) (listed : Array Bool) (a : Act), (∀ j, j < l.length → l[j]? = ops[k + j]?) → k + l.length = n → HeadInv md ops n listed →
    Region.lexHead md ops g l.length k listed = true → gLex ops D Z Lq l a →
    gAnyL md ops D Z n (fun listed' a' => HeadInv md ops n listed' ∧ Region.seqB md ops g n listed' = true ∧ Lq a') l.length listed a
  | [], k, listed, a, _, hk, inv, hB, h => by
    have : k = n := by simpa using hk
    subst this
    exact ⟨inv, by simpa [Region.lexHead] using hB, h⟩
  | o :: l, k, listed, a, hl, hk, inv, hB, h => by
    have h0 : ops[k]? = some o := by simpa using (hl 0 (by simp)).symm
    simp only [List.length_cons, Region.lexHead, Bool.and_eq_true] at hB
    obtain ⟨⟨hr, hf⟩, hB'⟩ := hB
    have hkn : k < n := by simp only [List.length_cons] at hk; omega
    have hr' : k ∈ Region.ready md ops listed := by simpa using hr
    have hst : gOp ops D Z k (gLex ops D Z Lq l) a := by unfold gOp; simp only [h0]; exact h
    obtain ⟨v, hy, hK⟩ := gives_of h0 hst
    exact gAnyL_first hD h0 (Region.noSelect_spec hsel) hs hc hn hkn (fun listed' a' hL => seqB_ready hL.2.1) l.length listed a inv (Region.free_spec h0 hf) hr' hy
      (gAnyL_lex hD hsel hs hc hn l (k + 1) _ _ (fun j hj => by have := hl (j + 1) (by simp; omega); simpa [Nat.add_assoc, Nat.add_comm 1 j] using this) (by simp only [List.length_cons] at hk; omega) (inv.set hr' hkn) hB' hK)
end comb

section mixT
variable {P : Program} {ops : Array Oper} {w0 : World} {N : Tmp → Option (Value → World → Prop)}
theorem wpAny_of_mixL {n g : Nat} {ts : List Tmp} (hN : ∀ t, N t ≠ none → t ∈ ts) (hB : mixB ops ts = true) (hs : Stable N) {L : Array Bool → Act → Prop} {Q' : Exit → Act → World → Prop}
    (hQ : ∀ listed a a' W, Inv ops w0 N listed a a' W → L listed a → wpAny P .any ops Q' g listed a' W) : ∀ (fuel : Nat) (listed : Array Bool) (a a' : Act) (W : World), Inv ops w0 N listed a a' W →
    gAnyL .any ops (MixD P ops w0 N) (fun o => o.dst.bind N = none) n L fuel listed a → wpAny P .any ops Q' (fuel + g) listed a' W
  | 0, listed, a, a', W, hI, h => by rw [Nat.zero_add]; exact hQ listed a a' W hI h
  | fuel + 1, listed, a, a', W, hI, h => by
    rw [show fuel + 1 + g = (fuel + g) + 1 by omega]
    refine ⟨fun h0 => absurd h0 h.1, fun i hi => ?_⟩
    have hh := (h.2 i hi).2
    obtain ⟨_, o, ho, _⟩ := mem_ready.1 hi
    unfold gOp at hh
    unfold wpOp
    simp only [ho] at hh ⊢
    rw [hI.wanted hN hB ho]
    split
    · rename_i hw
      simp only [hw, if_true] at hh
      obtain ⟨v, hD, hK⟩ := hh
      refine .inl ?_
      have hT := hI.look hN hB ho hi
      unfold Oper.wp
      unfold MixD at hD
      cases hd : o.dst.bind N with
      | none =>
        rw [hd] at hD
        have h3 := hD W a' hI.up hT
        generalize (execOp a'.eval o).run P W = r at *
        cases r with
        | ok n W' =>
          cases n <;> simp only [QuietUpon] at h3 <;> simp only [Oper.upon]
          case value u => obtain ⟨hu, rfl⟩ := h3; exact wpAny_of_mixL hN hB hs hQ fuel _ _ _ _ (hI.quiet hs hu ho hd u) hK
          case skip => obtain ⟨hu, rfl⟩ := h3; exact wpAny_of_mixL hN hB hs hQ fuel _ _ _ _ (hI.quiet hs hu ho hd _) hK
          case enter f args => exact h3.mono fun e W'' ⟨u, he, hu, hv⟩ => by subst he; subst hv; exact wpAny_of_mixL hN hB hs hQ fuel _ _ _ _ (hI.quiet hs hu ho hd u) hK
          case row => exact Rows.mono h3 fun u W'' ⟨hu, hv⟩ => by subst hv; exact wpAny_of_mixL hN hB hs hQ fuel _ _ _ _ (hI.quiet hs hu ho hd u) hK
        | halt x W' => simp only [QuietUpon] at h3
      | some R =>
        rw [hd] at hD
        obtain ⟨t, ht, hNt⟩ := Option.bind_eq_some_iff.1 hd
        have h3 := hD W a' hI.up hT
        generalize (execOp a'.eval o).run P W = r at *
        cases r with
        | ok n W' =>
          cases n <;> simp only [QuietUpon] at h3 <;> simp only [Oper.upon]
          case value u => exact wpAny_of_mixL hN hB hs hQ fuel _ _ _ _ (hI.noisy hs h3.1 ho ht hNt v u h3.2) hK
          case skip => exact wpAny_of_mixL hN hB hs hQ fuel _ _ _ _ (hI.noisy hs h3.1 ho ht hNt v _ h3.2) hK
          case enter f args => exact h3.mono fun e W'' ⟨u, he, hu, hv⟩ => by subst he; exact wpAny_of_mixL hN hB hs hQ fuel _ _ _ _ (hI.noisy hs hu ho ht hNt v u hv) hK
          case row => exact Rows.mono h3 fun u W'' ⟨hu, hv⟩ => wpAny_of_mixL hN hB hs hQ fuel _ _ _ _ (hI.noisy hs hu ho ht hNt v u hv) hK
        | halt x W' => simp only [QuietUpon] at h3
    · rename_i hw
      simp only [hw] at hh
      exact wpAny_of_mixL hN hB hs hQ fuel _ _ _ _ (hI.quiet hs (Up.refl _) ho hh.1 undef) hh.2
/-- the told temporaries come up ahead of the n-th operation -/
def aheadB (ops : Array Oper) (ts : List Tmp) (n : Nat) : Bool := ts.all fun t => (List.range n).any fun k => (ops[k]?).bind (·.dst) == some t
theorem seq_all {md : Region.Mode} {n g : Nat} {listed : Array Bool} (hs : Region.sinkB md ops n = true) (hc : Region.chainB md ops n = true) (hn : n < ops.size) (inv : HeadInv md ops n listed) (hg : 0 < g) (h : Region.seqB md ops g n listed = true) :
    ∀ k, k < n → listed.getD k false = true := by
  intro k hk
  cases hl : listed.getD k false with
  | true => rfl
  | false =>
    exfalso
    have hr : n ∈ Region.ready md ops listed := by
      obtain ⟨g', rfl⟩ : ∃ g', g = g' + 1 := ⟨g - 1, by omega⟩
      simp only [Region.seqB, Bool.and_eq_true, decide_eq_true_eq] at h
      rw [h.1]; simp
    exact tail_waits hs hc hn inv _ k rfl hk (getD_in (by rw [inv.size]; omega) hl) n (Nat.le_refl _) hr

theorem wp_region_mixT {id : Nat} {Q : Exit → Act → World → Prop} {a : Act} {w : World} {l : List Oper} (n : Nat) (NS : List (Tmp × (Value → World → Prop))) (ts : List Tmp) (hts : NS.map (·.1) = ts) (hm : P.follows .mixedOrders = true)
    (hB : (Region.lexTailB .any l.toArray n && mixB l.toArray ts && aheadB l.toArray ts n && decide ts.Nodup) = true) (hin : ∀ t ∈ ts, t < a.tmps.size) (hs : ∀ p ∈ NS, ∀ v W W', p.2 v W → Up W W' → p.2 v W')
    (h : gLex l.toArray (MixD P l.toArray w (nOf NS)) (fun o => o.dst.bind (nOf NS) = none) (fun b => ∀ W, Up w W → fin NS (fun b' => wpList P l.toArray Q (l.drop n) b' W) b W) (l.take n) a) : (Code.region id l.toArray true).wp P Q a w := by
  simp only [Bool.and_eq_true, decide_eq_true_eq] at hB
  obtain ⟨⟨⟨h1, h2⟩, h3⟩, h4⟩ := hB
  simp only [Region.lexTailB, Bool.and_eq_true, decide_eq_true_eq] at h1
  obtain ⟨⟨⟨⟨hsel, hn⟩, hsk⟩, hc⟩, hlex⟩ := h1
  have hn' : n < l.length := by simpa using hn
  have htl : (l.take n).length = n := by simp; omega
  have hdl : (l.drop n).length = l.toArray.size - n := by simp
  have inv0 : HeadInv .any l.toArray n (Array.replicate l.toArray.size false) :=
    ⟨by simp, fun j oj _ hl => (by rw [getD_replicate_false] at hl; cases hl), fun t _ ht => getD_in (by simpa using ht) (getD_replicate_false _ _)⟩
  have hN : ∀ t, nOf NS t ≠ none → t ∈ ts := fun t ht => by
    cases hcc : nOf NS t with
    | none => exact absurd hcc ht
    | some R =>
      rw [← hts]
      exact List.mem_map.2 ⟨_, nOf_mem hcc, rfl⟩
  have hst : Stable (nOf NS) := fun t R hR v W W' hv hu => hs _ (nOf_mem hR) v W W' hv hu
  have H := gAnyL_lex (md := .any) (D := MixD P l.toArray w (nOf NS)) (Z := fun o => o.dst.bind (nOf NS) = none) (g := l.toArray.size - n) mix_resp hsel hsk hc hn (l.take n) 0 _ a (fun j hj => by
    have hj' : j < n := by rw [htl] at hj; exact hj
    simp [hj']) (by simpa using htl) inv0 (by rw [htl]; exact hlex) h
  refine wp_region_any hm ?_
  have := wpAny_of_mixL (N := nOf NS) (w0 := w) (n := n) (g := l.toArray.size - n) (Q' := Q) hN h2 hst (fun listed b b' W hI hL => by
    obtain ⟨inv, hsq, hq⟩ := hL
    have hall := seq_all hsk hc hn inv (by omega) hsq
    have hf : wpList P l.toArray Q (l.drop n) b' W := by
      refine fin_of hI.size hI.defers (fun t ht => hI.same t ?_) (fun p hp => ?_) (hq W hI.up)
      · cases hcc : nOf NS t with
        | none => rfl
        | some R => exact absurd rfl (ht _ (nOf_mem hcc))
      · have hk := nOf_of (NS := NS) (by rw [hts]; exact h4) p hp
        have hpt : p.1 ∈ ts := by rw [← hts]; exact List.mem_map.2 ⟨p, hp, rfl⟩
        obtain ⟨k, hkr, hkd⟩ := List.any_eq_true.1 (List.all_eq_true.1 h3 p.1 hpt)
        have hkd : (l.toArray[k]?).bind (·.dst) = some p.1 := by simpa using hkd
        obtain ⟨ok, hok, hdst⟩ := Option.bind_eq_some_iff.1 hkd
        exact hI.told k ok p.1 p.2 hok hdst hk (hall k (List.mem_range.1 hkr))
    have := wpAny_of_seq (md := .any) (Q' := Q) (l.drop n) n listed b' W (fun j => by simp [List.getElem?_drop]) (by rw [hdl]; exact hsq) hf
    rwa [hdl] at this) _ _ a a { w with drawn := w.drawn + 1 } ⟨by simp, (Up.refl w).drew, rfl, rfl, fun t ht => hin t (hN t ht), fun _ _ => rfl, fun i o t R ho _ _ hl => by
      rw [show (Array.replicate l.toArray.size false).getD i false = false by
        simp only [Array.getD]
        split
        · simp
        · rfl] at hl
      cases hl⟩ H
  rw [htl, show n + (l.toArray.size - n) = l.toArray.size by omega] at this
  exact this
end mixT
end Go.Proofs.YtamfjgioajmnpaaGreatDoor
namespace Go.Proofs.YtamfjgioajmnpaaGreatDoor
open Go.RowKit
set_option linter.unusedVariables false
set_option linter.unusedSimpArgs false

/-- an attribute's bits that stand -/
def six05 (v : Int) : Int := fbits (fP v) (fN v) (fD v) (fM v)
theorem six05_and : ∀ k : Fin 256, bits .and .u8 (k.val : Int) 61 = six05 k.val := by decide +kernel
theorem and61 (v : Int) (h0 : 0 ≤ v) (h1 : v ≤ 255) : bits .and .u8 v 61 = six05 v := by
  have h := six05_and ⟨v.toNat, by omega⟩
  rwa [show (((⟨v.toNat, by omega⟩ : Fin 256).val : Nat) : Int) = v from by simp; omega] at h
theorem six05_tab : ∀ k : Fin 256, 0 ≤ six05 k.val ∧ six05 k.val ≤ 63 ∧ six05 (six05 k.val) = six05 k.val := by decide +kernel
theorem six05_bd (v : Int) (h : 0 ≤ v ∧ v ≤ 255) : 0 ≤ six05 v ∧ six05 v ≤ 255 ∧ six05 (six05 v) = six05 v := by
  have h := six05_tab ⟨v.toNat, by omega⟩
  rw [show (((⟨v.toNat, by omega⟩ : Fin 256).val : Nat) : Int) = v from by simp; omega] at h
  exact ⟨h.1, by omega, h.2.2⟩

/-- a cell -/
structure Cl where
  ch : Int
  at_ : Bool
  fa : Int
  hi : Int
  co : Int
  se : Int
theorem Cl.ext_ {a b : Cl} (h1 : a.ch = b.ch) (h2 : a.at_ = b.at_) (h3 : a.fa = b.fa) (h4 : a.hi = b.hi) (h5 : a.co = b.co) (h6 : a.se = b.se) : a = b := by
  cases a; cases b; simp_all
noncomputable instance : DecidableEq Cl := fun a b => Classical.propDecidable _
def Cl.zero : Cl := ⟨0, false, 0, 0, 0, 0⟩
def Cl.enc (c : Cl) : List Value := [.int .u8 c.ch, .bool c.at_, .int .u8 c.fa, .int .u8 c.hi, .int .u8 c.co, .int .u8 c.se]
def Cl.val (c : Cl) : Value := .agg #[.int .u8 c.ch, .bool c.at_, .int .u8 c.fa, .int .u8 c.hi, .int .u8 c.co, .int .u8 c.se]
def isB (x : Int) : Prop := 0 ≤ x ∧ x ≤ 255
structure Cl.Wf (c : Cl) : Prop where
  ch : isB c.ch
  fa : isB c.fa
  hi : isB c.hi
  co : isB c.co
  se : isB c.se
def Cl.fit (c : Cl) : Cl := if c.at_ then { c with ch := 0, fa := six05 c.fa } else { c with fa := 0 }
theorem Cl.fit_wf {c : Cl} (h : c.Wf) : c.fit.Wf := by
  have h6 := six05_bd _ h.fa
  unfold Cl.fit
  split
  · exact ⟨by simp [isB], ⟨h6.1, h6.2.1⟩, h.hi, h.co, h.se⟩
  · exact ⟨h.ch, by simp [isB], h.hi, h.co, h.se⟩
theorem Cl.fit_fit {c : Cl} (h : c.Wf) : c.fit.fit = c.fit := by
  have h6 := six05_bd _ h.fa
  unfold Cl.fit
  by_cases e : c.at_
  · simp [e, h6.2.2]
  · simp [e]
theorem Cl.zero_wf : Cl.zero.Wf := ⟨by simp [isB, Cl.zero], by simp [isB, Cl.zero], by simp [isB, Cl.zero], by simp [isB, Cl.zero], by simp [isB, Cl.zero]⟩
theorem Cl.zero_fit : Cl.zero.fit = Cl.zero := rfl
def cnt (c : Cl) : Nat := if c.at_ then 1 else 0
def attrsN (L : List Cl) : Nat := (L.map cnt).sum

/-- a screen -/
structure Spc where
  model : Int
  alt : Bool
  r : Int
  c : Int
  L : List Cl
  cur : Int
def dims (m : Int) : Int × Int := if m = 2 then (24, 80) else if m = 3 then (32, 80) else if m = 4 then (43, 80) else (27, 132)
structure Spc.Ok (X : Spc) : Prop where
  m2 : 2 ≤ X.model
  m5 : X.model ≤ 5
  size : (X.r, X.c) = dims (if X.alt then X.model else 2)
  len : (X.L.length : Int) = X.r * X.c
  wf : ∀ c ∈ X.L, c.Wf
  fit : ∀ c ∈ X.L, c.fit = c
  cur0 : 0 ≤ X.cur
  cur1 : X.cur < X.L.length
theorem dims_valid (m : Int) : validB (dims m).1 (dims m).2 = true ∧ 80 ≤ (dims m).2 ∧ 1920 ≤ (dims m).1 * (dims m).2 := by
  unfold dims
  repeat' split
  all_goals exact ⟨by decide, by decide, by decide⟩
theorem Spc.Ok.valid {X : Spc} (h : X.Ok) : validB X.r X.c = true := by
  have := dims_valid (if X.alt then X.model else 2)
  rw [← h.size] at this; exact this.1
theorem Spc.Ok.big {X : Spc} (h : X.Ok) : 1920 ≤ X.L.length := by
  have h1 := dims_valid (if X.alt then X.model else 2)
  have h2 := h.len
  rw [← h.size] at h1
  have := h1.2.2
  simp only at this
  omega
theorem Spc.Ok.small {X : Spc} (h : X.Ok) : X.L.length ≤ 3564 := by
  have h1 := valid_facts h.valid
  have h2 := h.len
  omega
/-- the place of a number -/
def Spc.wrap (X : Spc) (n : Int) : Nat := (n % (X.r * X.c)).toNat
theorem Spc.Ok.wrap {X : Spc} (h : X.Ok) (n : Int) : n % (X.r * X.c) = (X.wrap n : Int) ∧ X.wrap n < X.L.length := by
  have h1 := h.big
  have h2 := mod_facts n (X.r * X.c) (by rw [← h.len]; omega)
  unfold Spc.wrap
  have := h.len
  omega
def Spc.at_ (X : Spc) (n : Int) : Cl := X.L.getD (X.wrap n) Cl.zero
def Spc.set (X : Spc) (n : Int) (c : Cl) : Spc := { X with L := X.L.set (X.wrap n) c.fit }
def Spc.place (X : Spc) (n : Int) : Spc := { X with cur := X.wrap n }
def Spc.clear (X : Spc) (a : Bool) : Spc :=
  { X with alt := a, r := (dims (if a then X.model else 2)).1, c := (dims (if a then X.model else 2)).2, L := List.replicate ((dims (if a then X.model else 2)).1 * (dims (if a then X.model else 2)).2).toNat Cl.zero, cur := 0 }
def newS (m : Int) : Spc := (⟨m, false, 0, 0, [], 0⟩ : Spc).clear false

/-- a cell's six in memory -/
structure CellAt (w : World) (g o : Nat) (c : Cl) : Prop where
  h0 : w.cell? ⟨g, o, none⟩ = some (.int .u8 c.ch)
  h1 : w.cell? ⟨g, o + 1, none⟩ = some (.bool c.at_)
  h2 : w.cell? ⟨g, o + 2, none⟩ = some (.int .u8 c.fa)
  h3 : w.cell? ⟨g, o + 3, none⟩ = some (.int .u8 c.hi)
  h4 : w.cell? ⟨g, o + 4, none⟩ = some (.int .u8 c.co)
  h5 : w.cell? ⟨g, o + 5, none⟩ = some (.int .u8 c.se)
def FreeAt (w : World) (g : Nat) : Prop := ∀ o, w.frozen? ⟨g, o, none⟩ = false
def CellsAt (w : World) (g : Nat) (L : List Cl) : Prop := FreeAt w g ∧ g < w.heap.size ∧ ∀ i c, L[i]? = some c → CellAt w g (i * 6) c
/-- the program's space -/
structure SAt (w : World) (p g : Nat) (X : Spc) : Prop where
  ne : p ≠ g
  lt : p < w.heap.size
  free : FreeAt w p
  h0 : w.cell? ⟨p, 0, none⟩ = some (.int .i64 X.model)
  h1 : w.cell? ⟨p, 1, none⟩ = some (.bool X.alt)
  h2 : w.cell? ⟨p, 2, none⟩ = some (.int .i64 X.r)
  h3 : w.cell? ⟨p, 3, none⟩ = some (.int .i64 X.c)
  h4 : ∃ cap, X.L.length ≤ cap ∧ cap ≤ maxLen ∧ w.cell? ⟨p, 4, none⟩ = some (.slice (some ⟨g, 0, none⟩) X.L.length cap)
  h5 : w.cell? ⟨p, 5, none⟩ = some (.int .i64 X.cur)
  h6 : w.cell? ⟨p, 6, none⟩ = some (.int .i64 (attrsN X.L : Int))
  cells : CellsAt w g X.L

theorem CellAt.keep {w w' : World} {g o : Nat} {c : Cl} (h : CellAt w g o c) (hk : ∀ o, w'.cell? ⟨g, o, none⟩ = w.cell? ⟨g, o, none⟩) : CellAt w' g o c :=
  ⟨(hk _).trans h.h0, (hk _).trans h.h1, (hk _).trans h.h2, (hk _).trans h.h3, (hk _).trans h.h4, (hk _).trans h.h5⟩
theorem FreeAt.keep {w w' : World} {g : Nat} (h : FreeAt w g) (hk : w'.heap[g]? = w.heap[g]?) : FreeAt w' g := fun o =>
  (World.frozen?_of_block (a := ⟨g, o, none⟩) (show w'.heap[g]? = w.heap[g]? from hk)).trans (h o)
theorem FreeAt.set {w : World} {g : Nat} (h : FreeAt w g) (a : Addr) (v : Value) : FreeAt (w.setCell a v) g := fun o => by rw [World.frozen?_setCell]; exact h o
theorem heap_lt {w w' : World} {g : Nat} (hk : w'.heap[g]? = w.heap[g]?) (h : g < w.heap.size) : g < w'.heap.size := by
  rw [Array.getElem?_eq_getElem h] at hk
  exact (Array.getElem?_eq_some_iff.1 hk).1
theorem CellsAt.keep {w w' : World} {g : Nat} {L : List Cl} (h : CellsAt w g L) (hk : w'.heap[g]? = w.heap[g]?) : CellsAt w' g L :=
  ⟨h.1.keep hk, heap_lt hk h.2.1, fun i c hi => (h.2.2 i c hi).keep fun o => World.cell?_of_block (show w'.heap[g]? = w.heap[g]? from hk)⟩
theorem SAt.keep {w w' : World} {p g : Nat} {X : Spc} (h : SAt w p g X) (hp : w'.heap[p]? = w.heap[p]?) (hg : w'.heap[g]? = w.heap[g]?) : SAt w' p g X := by
  have hc : ∀ o, w'.cell? ⟨p, o, none⟩ = w.cell? ⟨p, o, none⟩ := fun o => World.cell?_of_block (show w'.heap[p]? = w.heap[p]? from hp)
  obtain ⟨cap, c1, c2, c3⟩ := h.h4
  exact ⟨h.ne, heap_lt hp h.lt, h.free.keep hp, (hc _).trans h.h0, (hc _).trans h.h1, (hc _).trans h.h2, (hc _).trans h.h3, ⟨cap, c1, c2, (hc _).trans c3⟩, (hc _).trans h.h5, (hc _).trans h.h6, h.cells.keep hg⟩
theorem SAt.up {w w' : World} {p g : Nat} {X : Spc} (h : SAt w p g X) (hu : Up w w') : SAt w' p g X := h.keep (hu.block p h.lt) (hu.block g h.cells.2.1)
theorem SAt.held {w w' : World} {p g : Nat} {X : Spc} {E : Nat → Prop} (h : SAt w p g X) (hk : Keep E w w') (hp : ¬ E p) (hg : ¬ E g) : SAt w' p g X := h.keep (hk.block p h.lt hp) (hk.block g h.cells.2.1 hg)
/-! stores -/
theorem ad_ne2 {b x y : Nat} (h : x ≠ y) : (⟨b, x, none⟩ : Addr) ≠ ⟨b, y, none⟩ := fun e => h (by injection e)
theorem CellAt.far {w : World} {g o : Nat} {c : Cl} (h : CellAt w g o c) {a : Nat} (v : Value) (ha : ∀ j, j < 6 → a ≠ o + j) : CellAt (w.setCell ⟨g, a, none⟩ v) g o c :=
  ⟨by rw [World.cell?_setCell_other (h := ad_ne2 (show a ≠ o from ha 0 (by omega)))]; exact h.h0, by rw [World.cell?_setCell_other (h := ad_ne2 (ha 1 (by omega)))]; exact h.h1, by rw [World.cell?_setCell_other (h := ad_ne2 (ha 2 (by omega)))]; exact h.h2,
   by rw [World.cell?_setCell_other (h := ad_ne2 (ha 3 (by omega)))]; exact h.h3, by rw [World.cell?_setCell_other (h := ad_ne2 (ha 4 (by omega)))]; exact h.h4, by rw [World.cell?_setCell_other (h := ad_ne2 (ha 5 (by omega)))]; exact h.h5⟩
/-- the world with a cell stored -/
def store6 (w : World) (g o : Nat) (c : Cl) : World :=
  (((((w.setCell ⟨g, o, none⟩ (.int .u8 c.ch)).setCell ⟨g, o + 1, none⟩ (.bool c.at_)).setCell ⟨g, o + 2, none⟩ (.int .u8 c.fa)).setCell ⟨g, o + 3, none⟩ (.int .u8 c.hi)).setCell ⟨g, o + 4, none⟩ (.int .u8 c.co)).setCell ⟨g, o + 5, none⟩ (.int .u8 c.se)
theorem store6_same {w : World} {g o : Nat} {d : Cl} (h : CellAt w g o d) (c : Cl) : CellAt (store6 w g o c) g o c := by
  have n01 : (⟨g, o + 1, none⟩ : Addr) ≠ ⟨g, o, none⟩ := ad_ne2 (by omega)
  have nn : ∀ i j : Nat, i ≠ j → (⟨g, o + i, none⟩ : Addr) ≠ ⟨g, o + j, none⟩ := fun i j e => ad_ne2 (by omega)
  have n0 : ∀ i : Nat, i ≠ 0 → (⟨g, o + i, none⟩ : Addr) ≠ ⟨g, o, none⟩ := fun i e => ad_ne2 (by omega)
  have n0' : ∀ i : Nat, i ≠ 0 → (⟨g, o, none⟩ : Addr) ≠ ⟨g, o + i, none⟩ := fun i e => ad_ne2 (by omega)
  refine ⟨?_, ?_, ?_, ?_, ?_, ?_⟩
  · unfold store6
    rw [World.cell?_setCell_other (h := n0 5 (by omega)), World.cell?_setCell_other (h := n0 4 (by omega)), World.cell?_setCell_other (h := n0 3 (by omega)), World.cell?_setCell_other (h := n0 2 (by omega)), World.cell?_setCell_other (h := n0 1 (by omega)), World.cell?_setCell_same (h := h.h0)]
  · unfold store6
    rw [World.cell?_setCell_other (h := nn 5 1 (by omega)), World.cell?_setCell_other (h := nn 4 1 (by omega)), World.cell?_setCell_other (h := nn 3 1 (by omega)), World.cell?_setCell_other (h := nn 2 1 (by omega)), World.cell?_setCell_same (u := .bool d.at_)]
    rw [World.cell?_setCell_other (h := n0' 1 (by omega))]; exact h.h1
  · unfold store6
    rw [World.cell?_setCell_other (h := nn 5 2 (by omega)), World.cell?_setCell_other (h := nn 4 2 (by omega)), World.cell?_setCell_other (h := nn 3 2 (by omega)), World.cell?_setCell_same (u := .int .u8 d.fa)]
    rw [World.cell?_setCell_other (h := nn 1 2 (by omega)), World.cell?_setCell_other (h := n0' 2 (by omega))]; exact h.h2
  · unfold store6
    rw [World.cell?_setCell_other (h := nn 5 3 (by omega)), World.cell?_setCell_other (h := nn 4 3 (by omega)), World.cell?_setCell_same (u := .int .u8 d.hi)]
    rw [World.cell?_setCell_other (h := nn 2 3 (by omega)), World.cell?_setCell_other (h := nn 1 3 (by omega)), World.cell?_setCell_other (h := n0' 3 (by omega))]; exact h.h3
  · unfold store6
    rw [World.cell?_setCell_other (h := nn 5 4 (by omega)), World.cell?_setCell_same (u := .int .u8 d.co)]
    rw [World.cell?_setCell_other (h := nn 3 4 (by omega)), World.cell?_setCell_other (h := nn 2 4 (by omega)), World.cell?_setCell_other (h := nn 1 4 (by omega)), World.cell?_setCell_other (h := n0' 4 (by omega))]; exact h.h4
  · unfold store6
    rw [World.cell?_setCell_same (u := .int .u8 d.se)]
    rw [World.cell?_setCell_other (h := nn 4 5 (by omega)), World.cell?_setCell_other (h := nn 3 5 (by omega)), World.cell?_setCell_other (h := nn 2 5 (by omega)), World.cell?_setCell_other (h := nn 1 5 (by omega)), World.cell?_setCell_other (h := n0' 5 (by omega))]; exact h.h5
theorem store6_free {w : World} {g o : Nat} {c : Cl} {b : Nat} (h : FreeAt w b) : FreeAt (store6 w g o c) b := (((((h.set _ _).set _ _).set _ _).set _ _).set _ _).set _ _
theorem store6_keep (w : World) (g o : Nat) (c : Cl) : Keep (fun k => k = g) w (store6 w g o c) :=
  (((((Keep.setCell (Keep.refl (fun k => k = g) w) (p := ⟨g, o, none⟩) (.inl rfl) _).setCell (p := ⟨g, o + 1, none⟩) (.inl rfl) _).setCell (p := ⟨g, o + 2, none⟩) (.inl rfl) _).setCell (p := ⟨g, o + 3, none⟩) (.inl rfl) _).setCell (p := ⟨g, o + 4, none⟩) (.inl rfl) _).setCell (p := ⟨g, o + 5, none⟩) (.inl rfl) _
theorem store6_size (w : World) (g o : Nat) (c : Cl) : (store6 w g o c).heap.size = w.heap.size := by simp [store6, World.setCell]
theorem store6_far {w : World} {g o : Nat} {c d : Cl} {i : Nat} (h : CellAt w g i d) (hi : i + 6 ≤ o ∨ o + 6 ≤ i) : CellAt (store6 w g o c) g i d :=
  (((((h.far _ (by omega)).far _ (by omega)).far _ (by omega)).far _ (by omega)).far _ (by omega)).far _ (by omega)
theorem CellsAt.store {w : World} {g : Nat} {L : List Cl} (h : CellsAt w g L) {k : Nat} (hk : k < L.length) (c : Cl) : CellsAt (store6 w g (k * 6) c) g (L.set k c) := by
  refine ⟨store6_free h.1, by rw [store6_size]; exact h.2.1, fun i d hi => ?_⟩
  rw [List.getElem?_set] at hi
  by_cases e : k = i
  · subst e
    rw [if_pos rfl, if_pos hk] at hi
    injection hi with hi
    subst hi
    exact store6_same (h.2.2 k _ (List.getElem?_eq_getElem hk)) _
  · rw [if_neg e] at hi
    exact store6_far (h.2.2 i d hi) (by omega)
theorem CellsAt.other {w : World} {g : Nat} {L : List Cl} (h : CellsAt w g L) {b : Nat} (a : Nat) (v : Value) (hb : b ≠ g) : CellsAt (w.setCell ⟨b, a, none⟩ v) g L :=
  h.keep (Below.heap_setCell w ⟨b, a, none⟩ v g (Ne.symm hb))
theorem attrsN_set {L : List Cl} {k : Nat} {d : Cl} (hk : L[k]? = some d) (c : Cl) : (attrsN (L.set k c) : Int) = attrsN L + ((cnt c : Int) - (cnt d : Int)) := by
  unfold attrsN
  induction L generalizing k with
  | nil => simp at hk
  | cons x L ih =>
    cases k with
    | zero =>
      simp at hk; subst hk
      simp; omega
    | succ k =>
      simp only [List.getElem?_cons_succ] at hk
      have := ih hk
      simp only [List.set_cons_succ, List.map_cons, List.sum_cons]
      omega
theorem attrsN_le (L : List Cl) : attrsN L ≤ L.length := by
  unfold attrsN
  induction L with
  | nil => simp
  | cons x L ih =>
    simp only [List.map_cons, List.sum_cons, List.length_cons]
    have : cnt x ≤ 1 := by unfold cnt; split <;> omega
    omega
end Go.Proofs.YtamfjgioajmnpaaGreatDoor
namespace Go.Proofs.YtamfjgioajmnpaaGreatDoor
open Go.RowKit
set_option linter.unusedVariables false
set_option linter.unusedSimpArgs false

set_option maxHeartbeats 800000 in
theorem sat_is {p g : Nat} {X : Spc} {w : World} (n : Int) (h : SAt w p g X) (ok : X.Ok) :
    Calls Tryz.prog 42 #[.pointer (some ⟨p, 0, none⟩), .int .i64 n] w fun e w' => e = .returned (X.at_ n).val ∧ Up w w' := by
  obtain ⟨k, hk⟩ : ∃ k, X.wrap n = k := ⟨_, rfl⟩
  have hw := ok.wrap n
  rw [hk] at hw
  obtain ⟨hw1, hw2⟩ := hw
  have hv := Lib.hid ok.valid
  obtain ⟨c, hc⟩ : ∃ c, X.L[k]? = some c := ⟨_, List.getElem?_eq_getElem hw2⟩
  have hat : X.at_ n = c := by unfold Spc.at_; rw [hk, List.getD, hc]; rfl
  rw [hat]
  obtain ⟨c0, c1, c2, c3, c4, c5⟩ := h.cells.2.2 k c hc
  obtain ⟨cap, q1, q2, k4⟩ := h.h4
  have k2 := h.h2
  have k3 := h.h3
  have zp := h.lt
  have zg := h.cells.2.1
  have HW1 := Lib.hid hw1
  generalize X.L.length = m at *
  clear hc hat hk hw1 h ok
  have hm : (k : Int) < (m : Int) := by omega
  have hcp : (cap : Int) ≤ 9223372036854775807 := by simp [maxLen] at q2; omega
  go_enter Tryz.func42, Tryz.ntmps42
  go_wp2_with fail
  refine wp_region_mixT 12 (NS := []) [] rfl (by kernel_rfl) (by kernel_rfl) (by simp) (by simp) ?_
  simp only [List.take_succ_cons, List.take_zero, List.drop_succ_cons, List.drop_zero]
  repeat (first
    | (refine mix_skip rfl rfl ?_; simp only [Act.put, List.setIfInBounds_toArray, List.set_cons_succ, List.set_cons_zero])
    | (refine mix_q rfl rfl rfl (by kernel_rfl) rfl rfl rfl ?_
       apply Exists.intro
       refine ⟨fun Wm => ?_, ?_⟩
       · simp only [fin]
         skip
         intro K hK
         go_wp2_with ((go_at_call 89; (with_reducible refine (wrap_good _ _ _ _ hv.out).mono ?_); rw [HW1.out]; rintro e w' ⟨rfl, hux⟩))
         refine hK _ _ ?_ ?_ ?_
         · (repeat (first | with_reducible exact Up.refl _ | with_reducible refine Up.alloc ?_ _ | with_reducible refine Up.drew ?_ | with_reducible refine Up.drewN ?_ _ | with_reducible refine Up.setCell ?_ (by (try simp) <;> omega) _ | with_reducible assumption | with_reducible refine Up.trans ?_ (by assumption)))
         · rfl
         · exact tmps_at rfl
       simp only [Act.put, List.setIfInBounds_toArray, List.set_cons_succ, List.set_cons_zero]))
  refine mix_nil ?_
  intro w1 hb_w1
  simp only [fin]
  have hu_w1 : Up w w1 := by (repeat (first | with_reducible exact Up.refl _ | with_reducible refine Up.alloc ?_ _ | with_reducible refine Up.drew ?_ | with_reducible refine Up.drewN ?_ _ | with_reducible refine Up.setCell ?_ (by (try simp) <;> omega) _ | with_reducible assumption | with_reducible refine Up.trans ?_ (by assumption)))
  have hz_w1 := Up.size hb_w1
  try simp at hz_w1
  obtain ⟨bd_w1_0, be_w1_0⟩ := hb_w1.at_ (w.heap.size) (by (try simp) <;> omega)
  have zb_w1_0 : w.heap.size < w1.heap.size := by omega
  go_wp2_with fail
  refine bodyPost_ret (v := c.val) (by simp [results, Tryz.results42, go_sem, Cl.val, bd_w1_0]) rfl ⟨rfl, by (repeat (first | with_reducible exact Up.refl _ | with_reducible refine Up.alloc ?_ _ | with_reducible refine Up.drew ?_ | with_reducible refine Up.drewN ?_ _ | with_reducible refine Up.setCell ?_ (by (try simp) <;> omega) _ | with_reducible assumption | with_reducible refine Up.trans ?_ (by assumption)))⟩
set_option maxHeartbeats 400000 in
theorem ssize_is {p g : Nat} {X : Spc} {w : World} (h : SAt w p g X) :
    Calls Tryz.prog 63 #[.pointer (some ⟨p, 0, none⟩)] w fun e w' => e = .returned (.agg #[.int .i64 X.r, .int .i64 X.c]) ∧ Up w w' := by
  obtain ⟨_, zp, _, k0, k1, k2, k3, _, _, _, _⟩ := h
  go_enter Tryz.func63, Tryz.ntmps63
  go_wp2
  refine bodyPost_ret (v := .agg #[.int .i64 X.r, .int .i64 X.c]) (by simp [results, Tryz.results63, go_sem]) rfl ⟨rfl, by (repeat (first | with_reducible exact Up.refl _ | with_reducible refine Up.alloc ?_ _ | with_reducible refine Up.drew ?_ | with_reducible refine Up.drewN ?_ _ | with_reducible refine Up.setCell ?_ (by (try simp) <;> omega) _ | with_reducible assumption | with_reducible refine Up.trans ?_ (by assumption)))⟩
theorem scur_is {p g : Nat} {X : Spc} {w : World} (h : SAt w p g X) :
    Calls Tryz.prog 39 #[.pointer (some ⟨p, 0, none⟩)] w fun e w' => e = .returned (.int .i64 X.cur) ∧ w = w' := by
  obtain ⟨_, zp, _, k0, k1, k2, k3, _, k5, _, _⟩ := h
  go_enter Tryz.func39, Tryz.ntmps39
  go_wp2
  go_ret
  exact ⟨rfl, rfl⟩
theorem sform_is {p g : Nat} {X : Spc} {w : World} (h : SAt w p g X) :
    Calls Tryz.prog 38 #[.pointer (some ⟨p, 0, none⟩)] w fun e w' => e = .returned (.bool (decide (0 < attrsN X.L))) ∧ w = w' := by
  obtain ⟨_, zp, _, k0, k1, k2, k3, _, k5, k6, _⟩ := h
  generalize attrsN X.L = m at *
  go_enter Tryz.func38, Tryz.ntmps38
  go_wp2
  go_ret
  exact ⟨ret_bool (by simp), rfl⟩
end Go.Proofs.YtamfjgioajmnpaaGreatDoor
