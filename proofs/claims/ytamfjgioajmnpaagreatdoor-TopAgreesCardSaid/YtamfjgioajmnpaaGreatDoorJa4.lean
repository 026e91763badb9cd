/-
Regions that draw their order, in one walk of the text's order: operations that yield one value wherever they run, and operations whose value is told by a property alone (new blocks). No condition.
-/
import Derived.Test.YtamfjgioajmnpaaGreatDoorJa2
import Derived.Test.YtamfjgioajmnpaaGreatDoorJa1
import Derived.Still
namespace Go.Proofs.YtamfjgioajmnpaaGreatDoor
open Go.RowKit
set_option linter.unusedVariables false
set_option linter.unusedSimpArgs false

section comb
variable {ops : Array Oper} {md : Region.Mode} {D : Oper → Act → Value → Prop} {Z : Oper → Prop} {Q : Act → Prop}

def gOp (ops : Array Oper) (D : Oper → Act → Value → Prop) (Z : Oper → Prop) (i : Nat) (K : Act → Prop) (a : Act) : Prop :=
  match ops[i]? with
  | none => K a
  | some o => if Region.wanted o (yielded ops a.tmps) then ∃ v, D o a v ∧ K (a.put o.dst v) else Z o ∧ K (a.put o.dst undef)
theorem gOp_mono {i : Nat} {a : Act} {K K' : Act → Prop} (h : ∀ a, K a → K' a) (hh : gOp ops D Z i K a) : gOp ops D Z i K' a := by
  unfold gOp at *
  split
  · exact h _ (by simpa [*] using hh)
  · rename_i o ho
    simp only [ho] at hh
    split
    · rename_i hw; simp only [hw, if_true] at hh; obtain ⟨v, h1, h2⟩ := hh; exact ⟨v, h1, h _ h2⟩
    · rename_i hw; simp only [hw] at hh; exact ⟨hh.1, h _ hh.2⟩
def gLex (ops : Array Oper) (D : Oper → Act → Value → Prop) (Z : Oper → Prop) (Q : Act → Prop) : List Oper → Act → Prop
  | [], a => Q a
  | o :: rest, a => if Region.wanted o (yielded ops a.tmps) then ∃ v, D o a v ∧ gLex ops D Z Q rest (a.put o.dst v) else Z o ∧ gLex ops D Z Q rest (a.put o.dst undef)
/-- whether an operation yields a value hangs on what it looks at alone -/
def Resp (ops : Array Oper) (D : Oper → Act → Value → Prop) : Prop := ∀ o, (∀ cs b, o.op ≠ .select cs b) → ∀ (a : Act) d u v, (∀ t, d = some t → t ∉ o.looksAt ops) → (D o (a.put d u) v ↔ D o a v)
def Gives (ops : Array Oper) (D : Oper → Act → Value → Prop) (Z : Oper → Prop) (o : Oper) (v : Value) (a : Act) : Prop :=
  (Region.wanted o (yielded ops a.tmps) = true ∧ D o a v) ∨ (Region.wanted o (yielded ops a.tmps) = false ∧ Z o ∧ v = undef)
theorem Gives.gOp {i : Nat} {o : Oper} {v : Value} {a : Act} (hi : ops[i]? = some o) (hy : Gives ops D Z o v a) {K : Act → Prop} (h : K (a.put o.dst v)) : gOp ops D Z i K a := by
  unfold Proofs.YtamfjgioajmnpaaGreatDoor.gOp
  simp only [hi]
  rcases hy with ⟨hw, hv⟩ | ⟨hw, hz, rfl⟩
  · simp only [hw, if_true]; exact ⟨v, hv, h⟩
  · simp only [hw, Bool.false_eq_true, if_false]; exact ⟨hz, h⟩
theorem gives_of {i : Nat} {o : Oper} {a : Act} {K : Act → Prop} (hi : ops[i]? = some o) (h : gOp ops D Z i K a) : ∃ v, Gives ops D Z o v a ∧ K (a.put o.dst v) := by
  unfold gOp at h
  simp only [hi] at h
  by_cases hw : Region.wanted o (yielded ops a.tmps) = true
  · simp only [hw, if_true] at h
    obtain ⟨v, h1, h2⟩ := h
    exact ⟨v, .inl ⟨hw, h1⟩, h2⟩
  · simp only [hw] at h
    exact ⟨undef, .inr ⟨by simpa using hw, h.1, rfl⟩, h.2⟩
theorem gOp_put (hD : Resp ops D) {j : Nat} {oi oj : Oper} {v : Value} (hj : ops[j]? = some oj) (hap : oi.apart ops oj = true)
    (hsi : ∀ cs b, oi.op ≠ .select cs b) (hsj : ∀ cs b, oj.op ≠ .select cs b) {K : Act → Prop} {a : Act}
    (hy : Gives ops D Z oi v a) (h : gOp ops D Z j K (a.put oi.dst v)) : gOp ops D Z j (fun a' => Gives ops D Z oi v a' ∧ K (a'.put oi.dst v)) a := by
  obtain ⟨h1, h2, h3⟩ := Oper.apart_spec hap
  have keep : ∀ u, Gives ops D Z oi v (a.put oj.dst u) := fun u => by
    unfold Gives at *
    rw [wanted_put oi a oj.dst u h3, hD oi hsi a oj.dst u v h3]
    exact hy
  obtain ⟨u, h4, h5⟩ := gives_of hj h
  refine Gives.gOp hj (v := u) ?_ ⟨keep u, by rw [← Act.put_comm a v u h2]; exact h5⟩
  unfold Gives at *
  rw [wanted_put oj a oi.dst v h1, hD oj hsj a oi.dst v u h1] at h4
  exact h4
end comb

section mix
variable {P : Program} {ops : Array Oper} {w0 : World} {N : Tmp → Option (Value → World → Prop)}

/-- what is known of the frame by whoever looks at it: the value itself, or its property -/
def Told (ops : Array Oper) (N : Tmp → Option (Value → World → Prop)) (o : Oper) (a a' : Act) (W : World) : Prop :=
  ∀ t ∈ o.looksAt ops, match N t with
    | none => a'.tmps[t]? = a.tmps[t]?
    | some R => ∃ v, a'.tmps[t]? = some v ∧ R v W
/-- the operation yields a value of that property, or a call hands it back; at most new blocks are made -/
def QuietUpon (P : Program) (W : World) (R : Value → World → Prop) : Result Next → Prop
  | .ok (.value u) W' => Up W W' ∧ R u W'
  | .ok .skip W' => Up W W' ∧ R undef W'
  | .ok (.enter f args) W' => Calls P f args W' (fun e W'' => ∃ v, e = .returned v ∧ Up W W'' ∧ R v W'')
  | .ok (.row row args) W' => Rows P row args W' (fun v W'' => Up W W'' ∧ R v W'')
  | _ => False
def MixD (P : Program) (ops : Array Oper) (w0 : World) (N : Tmp → Option (Value → World → Prop)) (o : Oper) (a : Act) (v : Value) : Prop :=
  match o.dst.bind N with
  | none => ∀ W a', Up w0 W → Told ops N o a a' W → QuietUpon P W (fun u _ => u = v) ((execOp a'.eval o).run P W)
  | some R => ∀ W a', Up w0 W → Told ops N o a a' W → QuietUpon P W R ((execOp a'.eval o).run P W)
theorem told_put {o : Oper} {a a' : Act} {d : Option Tmp} {u : Value} {W : World} (h : ∀ t, d = some t → t ∉ o.looksAt ops) : Told ops N o (a.put d u) a' W ↔ Told ops N o a a' W := by
  unfold Told
  have e : ∀ t ∈ o.looksAt ops, (a.put d u).tmps[t]? = a.tmps[t]? := fun t ht => by
    cases d with
    | none => rfl
    | some d =>
      have hne : d ≠ t := fun e => h d rfl (e ▸ ht)
      simp [Act.put, Array.getElem?_setIfInBounds_ne hne]
  constructor
  · intro H t ht
    have := H t ht
    rw [e t ht] at this
    exact this
  · intro H t ht
    have := H t ht
    rw [e t ht]
    exact this
theorem mix_resp : Resp ops (MixD P ops w0 N) := by
  intro o _ a d u v h
  unfold MixD
  cases o.dst.bind N with
  | none => simp only [told_put h]
  | some R => simp only [told_put h]
/-- each operation comes behind those whose property it looks at; each such temporary has one operation; no guard looks at one -/
def mixB (ops : Array Oper) (ts : List Tmp) : Bool :=
  (ops.all fun o => (List.range ops.size).all fun i => match (ops[i]?).bind (·.dst) with
    | none => true
    | some t => !(ts.contains t && (o.looksAt ops).contains t) || o.after.any (fun e => Region.binds .any e && e.on == i)) &&
  (ops.all fun o => match o.guard with
    | none => true
    | some (g, _) => match (ops[g]?).bind (·.dst) with
      | none => true
      | some t => !ts.contains t) &&
  (ts.all fun t => (List.range ops.size).any fun i => (ops[i]?).bind (·.dst) == some t)
theorem put_size (a : Act) (d : Option Tmp) (v : Value) : (a.put d v).tmps.size = a.tmps.size := by cases d <;> simp [Act.put]
theorem put_def (a : Act) (d : Option Tmp) (v : Value) : (a.put d v).defers = a.defers := by cases d <;> rfl
theorem put_at (a : Act) (t : Tmp) (v : Value) (h : t < a.tmps.size) : (a.put (some t) v).tmps[t]? = some v := by simp [Act.put, h]
theorem put_ne (a : Act) (d : Option Tmp) (v : Value) (t : Tmp) (h : d ≠ some t) : (a.put d v).tmps[t]? = a.tmps[t]? := by
  cases d with
  | none => rfl
  | some d => simp [Act.put, Array.getElem?_setIfInBounds_ne (fun e => h (congrArg some e))]
theorem put_same {a a' : Act} (d : Option Tmp) (v : Value) (hs : a'.tmps.size = a.tmps.size) (t : Tmp) (h : a'.tmps[t]? = a.tmps[t]?) : (a'.put d v).tmps[t]? = (a.put d v).tmps[t]? := by
  by_cases e : d = some t
  · subst e
    by_cases hl : t < a.tmps.size
    · rw [put_at _ _ _ hl, put_at _ _ _ (by rw [hs]; exact hl)]
    · simp [Act.put, hl, hs]
  · rw [put_ne _ _ _ _ e, put_ne _ _ _ _ e, h]

/-- how the true frame stands to the walked one -/
structure Inv (ops : Array Oper) (w0 : World) (N : Tmp → Option (Value → World → Prop)) (listed : Array Bool) (a a' : Act) (W : World) : Prop where
  len : listed.size = ops.size
  up : Up w0 W
  defers : a'.defers = a.defers
  size : a'.tmps.size = a.tmps.size
  inb : ∀ t, N t ≠ none → t < a.tmps.size
  same : ∀ t, N t = none → a'.tmps[t]? = a.tmps[t]?
  told : ∀ i o t R, ops[i]? = some o → o.dst = some t → N t = some R → listed.getD i false = true → ∃ v, a'.tmps[t]? = some v ∧ R v W

def Stable (N : Tmp → Option (Value → World → Prop)) : Prop := ∀ t R, N t = some R → ∀ v W W', R v W → Up W W' → R v W'

theorem Inv.quiet {listed : Array Bool} {a a' : Act} {W W' : World} (h : Inv ops w0 N listed a a' W) (hs : Stable N) (hu : Up W W') {i : Nat} {o : Oper} (hi : ops[i]? = some o) (hd : o.dst.bind N = none) (v : Value) :
    Inv ops w0 N (listed.setIfInBounds i true) (a.put o.dst v) (a'.put o.dst v) W' where
  len := by rw [Array.size_setIfInBounds]; exact h.len
  up := h.up.trans hu
  defers := by rw [put_def, put_def, h.defers]
  size := by rw [put_size, put_size, h.size]
  inb := fun t ht => by rw [put_size]; exact h.inb t ht
  same := fun t ht => put_same _ _ h.size t (h.same t ht)
  told := fun i' o' t R h1 h2 h3 h4 => by
    have hne : i ≠ i' := fun e => by
      subst e
      rw [hi] at h1
      injection h1 with h1
      subst h1
      rw [h2] at hd
      simp [h3] at hd
    rw [getD_set_ne false hne] at h4
    obtain ⟨u, hu1, hu2⟩ := h.told i' o' t R h1 h2 h3 h4
    refine ⟨u, ?_, hs t R h3 u W W' hu2 hu⟩
    rw [put_ne]
    · exact hu1
    · intro e
      rw [e] at hd
      simp [h3] at hd
theorem Inv.noisy {listed : Array Bool} {a a' : Act} {W W' : World} (h : Inv ops w0 N listed a a' W) (hs : Stable N) (hu : Up W W') {i : Nat} {o : Oper} (hi : ops[i]? = some o) {t : Tmp} {R : Value → World → Prop} (hd : o.dst = some t) (hN : N t = some R) (v u : Value) (hR : R u W') :
    Inv ops w0 N (listed.setIfInBounds i true) (a.put o.dst v) (a'.put o.dst u) W' where
  len := by rw [Array.size_setIfInBounds]; exact h.len
  up := h.up.trans hu
  defers := by rw [put_def, put_def, h.defers]
  size := by rw [put_size, put_size, h.size]
  inb := fun t ht => by rw [put_size]; exact h.inb t ht
  same := fun t' ht => by
    have hne : o.dst ≠ some t' := fun e => by
      rw [hd] at e
      injection e with e
      subst e
      rw [hN] at ht
      cases ht
    rw [put_ne _ _ _ _ hne, put_ne _ _ _ _ hne]
    exact h.same t' ht
  told := fun i' o' t' R' h1 h2 h3 h4 => by
    by_cases e : t' = t
    · subst e
      rw [hN] at h3
      injection h3 with h3
      subst h3
      exact ⟨u, by rw [hd]; exact put_at _ _ _ (by rw [h.size]; exact h.inb _ (by rw [hN]; simp)), hR⟩
    · have hne : i ≠ i' := fun e' => by
        subst e'
        rw [hi] at h1
        injection h1 with h1
        subst h1
        rw [h2] at hd
        injection hd with hd
        exact e hd
      rw [getD_set_ne false hne] at h4
      obtain ⟨x, hu1, hu2⟩ := h.told i' o' t' R' h1 h2 h3 h4
      refine ⟨x, ?_, hs t' R' h3 x W W' hu2 hu⟩
      rw [put_ne]
      · exact hu1
      · rw [hd]
        intro e2
        injection e2 with e2
        exact e e2.symm

theorem Inv.wanted {listed : Array Bool} {a a' : Act} {W : World} (h : Inv ops w0 N listed a a' W) {ts : List Tmp} (hN : ∀ t, N t ≠ none → t ∈ ts) (hB : mixB ops ts = true) {i : Nat} {o : Oper} (hi : ops[i]? = some o) :
    Region.wanted o (yielded ops a'.tmps) = Region.wanted o (yielded ops a.tmps) := by
  unfold Region.wanted
  cases hg : o.guard with
  | none => rfl
  | some gw =>
    obtain ⟨g, want⟩ := gw
    have hy : yielded ops a'.tmps g = yielded ops a.tmps g := by
      unfold yielded
      cases ht : (ops[g]?).bind (·.dst) with
      | none => rfl
      | some t =>
        simp only [mixB, Bool.and_eq_true] at hB
        have h2 := Array.all_eq_true_iff_forall_mem.1 hB.1.2 o (Array.mem_of_getElem? hi)
        simp only [hg, ht] at h2
        have hnt : N t = none := by
          cases hc : N t with
          | none => rfl
          | some R =>
            have := hN t (by rw [hc]; simp)
            simp [this] at h2
        simp only [Option.bind_some, h.same t hnt]
    simp only [hy]
theorem Inv.look {listed : Array Bool} {a a' : Act} {W : World} (h : Inv ops w0 N listed a a' W) {ts : List Tmp} (hN : ∀ t, N t ≠ none → t ∈ ts) (hB : mixB ops ts = true) {i : Nat} {o : Oper} (hi : ops[i]? = some o) (hr : i ∈ Region.ready .any ops listed) :
    Told ops N o a a' W := by
  intro t ht
  cases hc : N t with
  | none => exact h.same t hc
  | some R =>
    have hts := hN t (by rw [hc]; simp)
    simp only [mixB, Bool.and_eq_true] at hB
    have h3 := List.all_eq_true.1 hB.2 t hts
    obtain ⟨k, _, hk⟩ := List.any_eq_true.1 h3
    have hk : (ops[k]?).bind (·.dst) = some t := by simpa using hk
    obtain ⟨ok, hok, hdst⟩ := Option.bind_eq_some_iff.1 hk
    have hlt : k < ops.size := (Array.getElem?_eq_some_iff.1 hok).1
    have h1 := List.all_eq_true.1 (Array.all_eq_true_iff_forall_mem.1 hB.1.1 o (Array.mem_of_getElem? hi)) k (List.mem_range.2 hlt)
    simp only [hk] at h1
    have hcn : (ts.contains t && (o.looksAt ops).contains t) = true := by simp [hts, ht]
    rw [hcn] at h1
    simp only [Bool.not_true, Bool.false_or, Array.any_eq_true', Bool.and_eq_true, beq_iff_eq] at h1
    obtain ⟨e, he, hb, hon⟩ := h1
    obtain ⟨_, o', ho', hall⟩ := mem_ready.1 hr
    rw [hi] at ho'
    injection ho' with ho'
    subst ho'
    have := hall e he hb
    rw [hon] at this
    exact h.told k ok t R hok hdst hc this
/-- whatever the told temporaries hold -/
def fin : List (Tmp × (Value → World → Prop)) → (Act → Prop) → Act → World → Prop
  | [], K, a, _ => K a
  | (t, R) :: r, K, a, W => ∀ v, R v W → fin r K (a.put (some t) v) W
def nOf : List (Tmp × (Value → World → Prop)) → Tmp → Option (Value → World → Prop)
  | [], _ => none
  | (s, R) :: r, t => bif Nat.beq s t then some R else nOf r t
theorem nOf_mem {NS : List (Tmp × (Value → World → Prop))} {t : Tmp} {R : Value → World → Prop} (h : nOf NS t = some R) : (t, R) ∈ NS := by
  induction NS with
  | nil => cases h
  | cons p r ih =>
    obtain ⟨s, R'⟩ := p
    simp only [nOf] at h
    cases hb : Nat.beq s t with
    | true =>
      rw [hb] at h
      obtain rfl := Nat.eq_of_beq_eq_true hb
      simp at h
      subst h
      simp
    | false =>
      rw [hb] at h
      exact List.mem_cons_of_mem _ (ih h)
theorem nOf_of {NS : List (Tmp × (Value → World → Prop))} (hn : (NS.map (·.1)).Nodup) : ∀ p ∈ NS, nOf NS p.1 = some p.2 := by
  induction NS with
  | nil => simp
  | cons p r ih =>
    obtain ⟨s, R'⟩ := p
    simp only [List.map_cons, List.nodup_cons] at hn
    intro q hq
    rcases List.mem_cons.1 hq with rfl | hq
    · simp [nOf, Nat.beq_refl]
    · have hne : s ≠ q.1 := fun e => hn.1 (e ▸ List.mem_map_of_mem hq)
      have hb : Nat.beq s q.1 = false := by
        cases hb : Nat.beq s q.1 with
        | false => rfl
        | true => exact absurd (Nat.eq_of_beq_eq_true hb) hne
      simp only [nOf, hb, cond_false]
      exact ih hn.2 q hq
theorem fin_of {K : Act → Prop} {a' : Act} {W : World} : ∀ {NS : List (Tmp × (Value → World → Prop))} {a : Act}, a'.tmps.size = a.tmps.size → a'.defers = a.defers → (∀ t, (∀ p ∈ NS, p.1 ≠ t) → a'.tmps[t]? = a.tmps[t]?) →
    (∀ p ∈ NS, ∃ v, a'.tmps[p.1]? = some v ∧ p.2 v W) → fin NS K a W → K a'
  | [], a, hs, hd, he, _, h => by
    have : a' = a := by
      obtain ⟨x, y⟩ := a
      obtain ⟨x', y'⟩ := a'
      simp only at hs hd he
      subst hd
      congr 1
      apply Array.ext_getElem?
      intro t
      exact he t (by simp)
    rw [this]
    exact h
  | (t, R) :: r, a, hs, hd, he, ht, h => by
    obtain ⟨v, h1, h2⟩ := ht (t, R) (by simp)
    refine fin_of (a := a.put (some t) v) (by rw [put_size]; exact hs) (by rw [put_def]; exact hd) (fun s hsn => ?_) (fun p hp => ht p (by simp [hp])) (h v h2)
    by_cases e : t = s
    · subst e
      have hlt : t < a.tmps.size := by
        have h7 : t < a'.tmps.size := (Array.getElem?_eq_some_iff.1 h1).1
        rw [hs] at h7
        exact h7
      rw [h1, put_at _ _ _ hlt]
    · rw [put_ne _ _ _ _ (fun e' => e (by injection e')), he s (fun p hp => by
        rcases List.mem_cons.1 hp with rfl | hp
        · exact e
        · exact hsn p hp)]
/-- what a told frame gives: one with those values at these temporaries -/
theorem fin_get {K : Act → Prop} {a' : Act} {W : World} : ∀ {NS : List (Tmp × (Value → World → Prop))} {a : Act}, (∀ p ∈ NS, p.1 < a.tmps.size) → (∀ p ∈ NS, ∃ v, a'.tmps[p.1]? = some v ∧ p.2 v W) → fin NS K a W →
    ∃ b, K b ∧ b.tmps.size = a.tmps.size ∧ b.defers = a.defers ∧ (∀ t, (∀ p ∈ NS, p.1 ≠ t) → b.tmps[t]? = a.tmps[t]?) ∧ ∀ p ∈ NS, b.tmps[p.1]? = a'.tmps[p.1]?
  | [], a, _, _, h => ⟨a, h, rfl, rfl, fun _ _ => rfl, by simp⟩
  | (t, R) :: r, a, hl, ht, h => by
    obtain ⟨v, h1, h2⟩ := ht (t, R) (by simp)
    obtain ⟨b, hb, hs, hd, he, hp⟩ := fin_get (NS := r) (a := a.put (some t) v) (a' := a') (fun p hp => by rw [put_size]; exact hl p (by simp [hp])) (fun p hp => ht p (by simp [hp])) (h v h2)
    have hlt := hl (t, R) (by simp)
    refine ⟨b, hb, by rw [hs, put_size], by rw [hd, put_def], fun s hsn => ?_, fun p hp' => ?_⟩
    · rw [he s (fun p hp' => hsn p (by simp [hp'])), put_ne _ _ _ _ (fun e => hsn (t, R) (by simp) (by injection e))]
    · rcases List.mem_cons.1 hp' with rfl | hp'
      · by_cases hin : ∃ q ∈ r, q.1 = t
        · obtain ⟨q, hq, hqt⟩ := hin
          have := hp q hq
          rw [hqt] at this
          exact this
        · rw [he t (fun q hq e => hin ⟨q, hq, e⟩), put_at _ _ _ hlt, h1]
      · exact hp p hp'

theorem fin_mono {K K' : Act → Prop} (hk : ∀ b, K b → K' b) {W : World} : ∀ {NS : List (Tmp × (Value → World → Prop))} {a : Act}, fin NS K a W → fin NS K' a W
  | [], _, h => hk _ h
  | (t, R) :: r, _, h => fun v hv => fin_mono hk (h v hv)
def OnlyK (K : Act → World → Prop) : Exit → Act → World → Prop
  | .normal, a, W => K a W
  | _, _, _ => False

section steps
variable {NS : List (Tmp × (Value → World → Prop))} {Q : Act → Prop} {rest : List Oper} {o : Oper} {a : Act}
theorem mix_nil (h : Q a) : gLex ops (MixD P ops w0 (nOf NS)) (fun o => o.dst.bind (nOf NS) = none) Q [] a := h
theorem mix_skip (hw : Region.wanted o (yielded ops a.tmps) = false) (hz : o.dst.bind (nOf NS) = none) (h : gLex ops (MixD P ops w0 (nOf NS)) (fun o => o.dst.bind (nOf NS) = none) Q rest (a.put o.dst undef)) :
    gLex ops (MixD P ops w0 (nOf NS)) (fun o => o.dst.bind (nOf NS) = none) Q (o :: rest) a := by
  unfold gLex
  rw [hw]
  exact ⟨hz, h⟩
def guardB (ops : Array Oper) (ts : List Tmp) (o : Oper) : Bool :=
  match o.guard with
  | none => true
  | some (g, _) => match (ops[g]?).bind (·.dst) with
    | none => true
    | some t => !ts.contains t
theorem only_run {R : Value → World → Prop} {W : World} {b : Act} (ho : Region.wanted o (yielded ops b.tmps) = true) {d : Tmp} (hd : o.dst = some d) (hlt : d < b.tmps.size)
    (h : wpList P ops (OnlyK fun b' W' => Up W W' ∧ b'.defers = b.defers ∧ ∃ u, b'.tmps[d]? = some u ∧ R u W') [o] b W) : QuietUpon P W R ((execOp b.eval o).run P W) := by
  have hget : ∀ u, (b.put o.dst u).tmps[d]? = some u := fun u => by rw [hd]; exact put_at b d u hlt
  have hget' : ∀ {u W'}, (∃ x, (b.put o.dst u).tmps[d]? = some x ∧ R x W') → R u W' := fun {u W'} ⟨x, h1, h2⟩ => by
    rw [hget] at h1
    injection h1 with h1
    rw [h1]
    exact h2
  unfold wpList at h
  rw [if_pos ho] at h
  rcases h with h | ⟨_, x, y, hf⟩
  · unfold Oper.wp at h
    generalize (execOp b.eval o).run P W = r at *
    cases r with
    | ok n W' =>
      cases n <;> simp only [Oper.upon, wpList, OnlyK] at h <;> simp only [QuietUpon]
      case value u => exact ⟨h.1, hget' h.2.2⟩
      case skip => exact ⟨h.1, hget' h.2.2⟩
      case enter f args =>
        refine h.mono fun e W'' he => ?_
        cases e with
        | returned v => exact ⟨v, rfl, he.1, hget' he.2.2⟩
        | panicked c => exact he.elim
        | outgrown => obtain ⟨_, _, hf⟩ := he; exact hf.elim
      case defer dd =>
        have h2 := h.2.1
        rw [put_def] at h2
        have := congrArg List.length h2
        simp at this
      case row => exact Rows.mono h fun u W'' he => ⟨he.1, hget' he.2.2⟩
    | halt x W' => cases x <;> simp only [Oper.upon, OnlyK] at h
  · exact hf.elim
theorem eval_same {a b : Act} {t : Tmp} (h : a.tmps[t]? = b.tmps[t]?) : a.eval (.tmp t) = b.eval (.tmp t) := by
  simp [Act.eval, h]
theorem exec_told {a a' b : Act} (hsel : ∀ cs b, o.op ≠ .select cs b) (h : ∀ t ∈ o.looksAt ops, b.tmps[t]? = a'.tmps[t]?) : execOp a'.eval o = execOp b.eval o := by
  refine execOp_congr o hsel fun x hx => ?_
  cases x with
  | tmp t => exact eval_same (h t (List.mem_append_left _ (List.mem_filterMap.2 ⟨.tmp t, by simpa using hx, rfl⟩))).symm
  | _ => rfl
/-- one operation, whatever the told temporaries that it looks at hold -/
theorem mix_run {R : Value → World → Prop} {ts : List Tmp} (hts : NS.map (·.1) = ts) (hnd : ts.Nodup) (hin : ∀ t ∈ ts, t < a.tmps.size) {NS' : List (Tmp × (Value → World → Prop))} (hN' : NS.filter (fun p => (o.looksAt ops).contains p.1) = NS')
    (hsel : ∀ cs b, o.op ≠ .select cs b) (hg : guardB ops ts o = true) (hw : Region.wanted o (yielded ops a.tmps) = true) {d : Tmp} (hd : o.dst = some d) (hlt : d < a.tmps.size)
    (h : ∀ W, fin NS' (fun b => ∀ K : Act → World → Prop, (∀ b' W' u, Up (upOf w0 W) W' → b'.defers = a.defers → b'.tmps[d]? = some u → R u W' → K b' W') → wpList P ops (OnlyK K) [o] b (upOf w0 W)) a (upOf w0 W))
    {W : World} {a' : Act} (hu : Up w0 W) (hT : Told ops (nOf NS) o a a' W) : QuietUpon P W R ((execOp a'.eval o).run P W) := by
  have hf := h W
  rw [upOf_of hu] at hf
  have hk := nOf_of (NS := NS) (by rw [hts]; exact hnd)
  have hmem : ∀ p ∈ NS', p ∈ NS ∧ p.1 ∈ o.looksAt ops := fun p hp => by
    rw [← hN'] at hp
    obtain ⟨h1, h2⟩ := List.mem_filter.1 hp
    exact ⟨h1, by simpa using h2⟩
  obtain ⟨b, hb, hs, hdf, he, hp⟩ := fin_get (a' := a') (fun p hp => hin _ (by rw [← hts]; exact List.mem_map.2 ⟨p, (hmem p hp).1, rfl⟩)) (fun p hp => by
    obtain ⟨h1, h2⟩ := hmem p hp
    have := hT p.1 h2
    rw [hk p h1] at this
    exact this) hf
  have hlook : ∀ t ∈ o.looksAt ops, b.tmps[t]? = a'.tmps[t]? := fun t ht => by
    by_cases hin' : ∃ p ∈ NS', p.1 = t
    · obtain ⟨p, hp', rfl⟩ := hin'
      exact hp p hp'
    · have hne : ∀ p ∈ NS', p.1 ≠ t := fun p hp' e => hin' ⟨p, hp', e⟩
      rw [he t hne]
      have h3 := hT t ht
      cases hc : nOf NS t with
      | none => rw [hc] at h3; exact h3.symm
      | some R' =>
        exfalso
        refine hne (t, R') ?_ rfl
        rw [← hN']
        exact List.mem_filter.2 ⟨nOf_mem hc, by simpa using ht⟩
  rw [exec_told (a := a) hsel hlook]
  have hwb : Region.wanted o (yielded ops b.tmps) = true := by
    rw [← hw]
    unfold Region.wanted
    cases hgd : o.guard with
    | none => rfl
    | some gw =>
      obtain ⟨g, want⟩ := gw
      have hy : yielded ops b.tmps g = yielded ops a.tmps g := by
        unfold yielded
        cases ht : (ops[g]?).bind (·.dst) with
        | none => rfl
        | some t =>
          simp only [guardB, hgd, ht] at hg
          have : b.tmps[t]? = a.tmps[t]? := he t fun p hp' e => by
            have : p.1 ∈ ts := by rw [← hts]; exact List.mem_map.2 ⟨p, (hmem p hp').1, rfl⟩
            rw [e] at this
            simp [this] at hg
          simp only [Option.bind_some, this]
      simp only [hy]
  refine only_run hwb hd (by rw [hs]; exact hlt) (hb _ fun b' W' u h1 h2 h3 h4 => ⟨h1, by rw [h2, hdf], u, h3, h4⟩)
def stepB (ops : Array Oper) (ts : List Tmp) (o : Oper) (d n : Nat) : Bool :=
  decide ts.Nodup && ts.all (fun t => Nat.blt t n) && (match o.op with | .select .. => false | _ => true) && guardB ops ts o && Nat.blt d n
theorem stepB_spec {ts : List Tmp} {d n : Nat} (h : stepB ops ts o d n = true) : ts.Nodup ∧ (∀ t ∈ ts, t < n) ∧ (∀ cs b, o.op ≠ .select cs b) ∧ guardB ops ts o = true ∧ d < n := by
  simp only [stepB, Bool.and_eq_true, decide_eq_true_eq] at h
  obtain ⟨⟨⟨⟨h1, h2⟩, h3⟩, h4⟩, h5⟩ := h
  exact ⟨h1, fun t ht => by simpa using List.all_eq_true.1 h2 t ht, fun cs b e => by simp [e] at h3, h4, by simpa using h5⟩
/-- an operation of one value -/
theorem mix_q {ts : List Tmp} {n : Nat} {d : Tmp} {NS' : List (Tmp × (Value → World → Prop))} (hts : NS.map (·.1) = ts) (hn : a.tmps.size = n) (hd : o.dst = some d) (hS : stepB ops ts o d n = true)
    (hw : Region.wanted o (yielded ops a.tmps) = true) (hz : nOf NS d = none) (hN' : NS.filter (fun p => (o.looksAt ops).contains p.1) = NS')
    (h : ∃ v, (∀ W, fin NS' (fun b => ∀ K : Act → World → Prop, (∀ b' W', Up (upOf w0 W) W' → b'.defers = a.defers → b'.tmps[d]? = some v → K b' W') → wpList P ops (OnlyK K) [o] b (upOf w0 W)) a (upOf w0 W)) ∧
      gLex ops (MixD P ops w0 (nOf NS)) (fun o => o.dst.bind (nOf NS) = none) Q rest (a.put (some d) v)) : gLex ops (MixD P ops w0 (nOf NS)) (fun o => o.dst.bind (nOf NS) = none) Q (o :: rest) a := by
  obtain ⟨v, h, hr⟩ := h
  obtain ⟨s1, s2, s3, s4, s5⟩ := stepB_spec hS
  subst hn
  unfold gLex
  rw [if_pos hw, hd]
  refine ⟨v, ?_, hr⟩
  unfold MixD
  rw [hd]
  simp only [Option.bind_some, hz]
  intro W a' hu hT
  refine mix_run (R := fun u _ => u = v) hts s1 s2 hN' s3 s4 hw hd s5 (fun W => fin_mono (fun b hb K hK => hb K fun b' W' h1 h2 h3 => hK b' W' v h1 h2 h3 rfl) (h W)) hu hT
/-- an operation whose value is told by its property -/
theorem mix_n {R : Value → World → Prop} {ts : List Tmp} {n : Nat} {d : Tmp} {NS' : List (Tmp × (Value → World → Prop))} (hts : NS.map (·.1) = ts) (hn : a.tmps.size = n) (hd : o.dst = some d) (hS : stepB ops ts o d n = true)
    (hw : Region.wanted o (yielded ops a.tmps) = true) (hz : nOf NS d = some R) (hN' : NS.filter (fun p => (o.looksAt ops).contains p.1) = NS')
    (h : ∀ W, fin NS' (fun b => ∀ K : Act → World → Prop, (∀ b' W' u, Up (upOf w0 W) W' → b'.defers = a.defers → b'.tmps[d]? = some u → R u W' → K b' W') → wpList P ops (OnlyK K) [o] b (upOf w0 W)) a (upOf w0 W))
    (hr : gLex ops (MixD P ops w0 (nOf NS)) (fun o => o.dst.bind (nOf NS) = none) Q rest (a.put (some d) undef)) : gLex ops (MixD P ops w0 (nOf NS)) (fun o => o.dst.bind (nOf NS) = none) Q (o :: rest) a := by
  obtain ⟨s1, s2, s3, s4, s5⟩ := stepB_spec hS
  subst hn
  unfold gLex
  rw [if_pos hw, hd]
  refine ⟨undef, ?_, hr⟩
  unfold MixD
  rw [hd]
  simp only [Option.bind_some, hz]
  intro W a' hu hT
  exact mix_run hts s1 s2 hN' s3 s4 hw hd s5 h hu hT
end steps
end mix

/-- a new slice of these bytes; a place that holds this -/
def RSl (l : List Int) (v : Value) (W : World) : Prop := ∃ A n c, v = .slice A n c ∧ n = l.length ∧ n ≤ c ∧ c ≤ maxLen ∧ Reads W W.heap.size 1 A n (bs l)
def RPtr (u : Value) (v : Value) (W : World) : Prop := ∃ g o, v = .pointer (some ⟨g, o, none⟩) ∧ g < W.heap.size ∧ W.cell? ⟨g, o, none⟩ = some u
theorem rsl_up (l : List Int) (v : Value) (W W' : World) (h : RSl l v W) (hu : Up W W') : RSl l v W' := by
  obtain ⟨A, n, c, h1, h2, h3, h4, h5⟩ := h
  exact ⟨A, n, c, h1, h2, h3, h4, h5.up hu⟩
theorem rptr_up (u : Value) (v : Value) (W W' : World) (h : RPtr u v W) (hu : Up W W') : RPtr u v W' := by
  obtain ⟨g, o, h1, h2, h3⟩ := h
  exact ⟨g, o, h1, by have := hu.size; omega, ((hu.at_ g h2).1 o).trans h3⟩
theorem rsl_lit (W : World) (cs : Array Value) (t : TypeId) (l : List Int) (n : Nat) (g : Nat) (h : cs.toList = l.map (Value.int .u8)) (hn : n = l.length) (hm : n ≤ maxLen) (hg : g = W.heap.size) : RSl l (.slice (some ⟨g, 0, none⟩) n n) (W.alloc (.cells cs t)) := by
  have hsz : cs.size = n * 1 := by rw [← Array.length_toList, h, List.length_map, hn, Nat.mul_one]
  have := (reads_at W g 1 n cs t hsz hg).more (show W.heap.size + 1 ≤ (W.alloc (.cells cs t)).heap.size by simp)
  rw [h] at this
  exact ⟨_, _, _, rfl, hn, Nat.le_refl _, hm, this⟩
theorem rsl_two {x y : Int} {v : Value} {W : World} (h : RSl [x, y] v W) : ∃ g off c, v = .slice (some ⟨g, off, none⟩) 2 c ∧ 2 ≤ c ∧ c ≤ maxLen ∧ g < W.heap.size ∧ W.cell? ⟨g, off, none⟩ = some (.int .u8 x) ∧ W.cell? ⟨g, off + 1, none⟩ = some (.int .u8 y) := by
  obtain ⟨A, n, c, rfl, h2, h3, h4, h5⟩ := h
  obtain rfl : n = 2 := h2
  obtain ⟨g, off, rfl, hb, hc⟩ := h5.2 (by omega)
  exact ⟨g, off, c, rfl, h3, h4, hb, hc 0 _ rfl, hc 1 _ rfl⟩
theorem tmps_at {a : Array Value} {d : Nat} {v : Value} (h : a.toList[d]? = some v) : a[d]? = some v := by rw [← h]; simp
end Go.Proofs.YtamfjgioajmnpaaGreatDoor
