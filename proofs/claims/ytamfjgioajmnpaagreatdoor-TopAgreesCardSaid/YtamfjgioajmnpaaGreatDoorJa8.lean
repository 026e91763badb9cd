/-
A range over a function, by the iterator's own contract: what its steps may write, what the round keeps, what it hands over. No condition.
What slices.AppendSeq and Collect over ints make of an iterator. No condition.
Slices of ints that a call makes by appends; the numbers below one of which something holds. No condition.
What the reference's Attrs, Clear and New do. No condition.
-/
import Derived.Test.YtamfjgioajmnpaaGreatDoorJa2
import Derived.RangeFuncNested
import Derived.RangeFuncBound
import Derived.RangeFuncCalls
import Derived.RangeFuncLeaves
import Derived.OwnWalkIn
import Derived.TacticsInMore
import Derived.LoopNIn
import Derived.LoopIn
import Derived.Test.YtamfjgioajmnpaaGreatDoorJa1
import Derived.Test.YtamfjgioajmnpaaGreatDoorJa7
namespace Go.Proofs.YtamfjgioajmnpaaGreatDoor
open Go.RowKit
set_option linter.unusedVariables false
set_option linter.unusedSimpArgs false

/-- cells lie as they lay, but those of T; below B everything does -/
structure Calm (B : Nat) (T : Nat → Prop) (w w' : World) : Prop where
  os : w'.os = w.os
  tape : w'.tape = w.tape
  output : w'.output = w.output
  size : w.heap.size ≤ w'.heap.size
  same : ∀ (k : Nat) (o : Obj), w.heap[k]? = some o → ¬ T k → (o.isCells = true ∨ k < B) → w'.heap[k]? = some o
/-- what a round keeps for the iterator: below B all but E; from C on whatever is no cells -/
structure KpR (B C : Nat) (E : Nat → Prop) (w w' : World) : Prop where
  os : w'.os = w.os
  tape : w'.tape = w.tape
  output : w'.output = w.output
  size : w.heap.size ≤ w'.heap.size
  low : ∀ k, k < B → ¬ E k → w'.heap[k]? = w.heap[k]?
  other : ∀ (k : Nat) (o : Obj), C ≤ k → w.heap[k]? = some o → o.isCells = false → w'.heap[k]? = some o
section
variable {B C : Nat} {T E : Nat → Prop} {x y z : World}
theorem Calm.of_keep (h : Keep T x y) : Calm B T x y := ⟨h.os, h.tape, h.output, h.size, fun k o hk ht _ => (h.block k (Array.getElem?_eq_some_iff.1 hk).1 ht).trans hk⟩
theorem Calm.putObj {W : World} {l : Nat} {o : Obj} (o' : Obj) (hB : B ≤ l) (hl : W.heap[l]? = some o) (ho : o.isCells = false) : Calm B T W (W.putObj l o') :=
  ⟨rfl, rfl, rfl, by simp, fun k o2 hk _ hc => (World.putObj_heap_other (fun e => by
    subst e
    rw [hl] at hk
    injection hk with hk
    subst hk
    rcases hc with hc | hc
    · rw [ho] at hc; cases hc
    · omega)).trans hk⟩
theorem Calm.cell (h : Calm B T x y) {b off : Nat} {v : Value} (hc : x.cell? ⟨b, off, none⟩ = some v) (hT : ¬ T b) : y.cell? ⟨b, off, none⟩ = some v := by
  obtain ⟨o, ho, hcl⟩ := cells_of_cell hc
  have := h.same b o ho hT (.inl hcl)
  exact (World.cell?_of_block (this.trans ho.symm)).trans hc
theorem Calm.frozen (h : Calm B T x y) {b off : Nat} {v : Value} (hc : x.cell? ⟨b, off, none⟩ = some v) (hT : ¬ T b) : y.frozen? ⟨b, off, none⟩ = x.frozen? ⟨b, off, none⟩ := by
  obtain ⟨o, ho, hcl⟩ := cells_of_cell hc
  have := h.same b o ho hT (.inl hcl)
  exact World.frozen?_of_block (this.trans ho.symm)
theorem Calm.own (h : Calm B T x y) {base : Nat} {e : TypeId} {size n : Nat} {v : Value} {xs : List Value} (ho : x.ownsRow base e size v n xs) (hT : ∀ k, T k → k < base) : y.ownsRow base e size v n xs := by
  refine ⟨ho.1, ?_⟩
  rcases ho.2 with h0 | ⟨g, cap, cur, e1, e2, e3, e4⟩
  · exact .inl h0
  · exact .inr ⟨g, cap, cur, e1, e2, h.same g _ e3 (fun ht => by have := hT g ht; omega) (.inl rfl), e4⟩
theorem KpR.refl (B C : Nat) (E : Nat → Prop) (x : World) : KpR B C E x x := ⟨rfl, rfl, rfl, Nat.le_refl _, fun _ _ _ => rfl, fun _ _ _ h _ => h⟩
theorem KpR.trans (h : KpR B C E x y) (k : KpR B C E y z) : KpR B C E x z :=
  ⟨k.os.trans h.os, k.tape.trans h.tape, k.output.trans h.output, Nat.le_trans h.size k.size, fun i hi he => (k.low i hi he).trans (h.low i hi he), fun i o hC ho hn => k.other i o hC (h.other i o hC ho hn) hn⟩
theorem KpR.mono {C' : Nat} (h : KpR B C E x y) (hC : C ≤ C') : KpR B C' E x y := ⟨h.os, h.tape, h.output, h.size, h.low, fun i o hi => h.other i o (by omega)⟩
theorem KpR.putObj {W : World} {l : Nat} (o' : Obj) (hB : B ≤ l) (hC : l < C) : KpR B C E W (W.putObj l o') :=
  ⟨rfl, rfl, rfl, by simp, fun k hk _ => World.putObj_heap_other (by omega), fun k o hk ho _ => (World.putObj_heap_other (by omega)).trans ho⟩
theorem KpR.of_up (h : Up x y) (hB : B ≤ x.heap.size) : KpR B C E x y :=
  ⟨h.os, h.tape, h.output, h.size, fun k hk _ => h.block k (by omega), fun k o _ ho _ => (h.block k (Array.getElem?_eq_some_iff.1 ho).1).trans ho⟩
theorem KpR.setCell {W : World} {p : Addr} {u : Value} (hp : E p.block ∨ B ≤ p.block) {v : Value} (hc : W.cell? p = some v) : KpR B C E W (W.setCell p u) :=
  ⟨rfl, rfl, rfl, by simp [World.setCell], fun k hk he => Below.heap_setCell W p u k (fun e => by
      subst e
      rcases hp with hp | hp
      · exact he hp
      · omega),
    fun k o _ ho hn => by
      refine (Below.heap_setCell W p u k (fun e => ?_)).trans ho
      subst e
      obtain ⟨o', ho', hcl⟩ := cells_of_cell hc
      rw [ho] at ho'
      injection ho' with ho'
      subst ho'
      rw [hn] at hcl
      cases hcl⟩
theorem KpR.grown {row : Option Nat} (hg : x.grownBy y row) (hB : B ≤ x.heap.size) (hr : ∀ g, row = some g → B ≤ g ∧ ∃ o : Obj, x.heap[g]? = some o ∧ o.isCells = true) : KpR B C E x y :=
  ⟨hg.os, hg.tape, hg.output, hg.size, fun k hk _ => hg.block k (by omega) (fun e => by have := (hr k e.symm).1; omega),
    fun k o _ ho hn => (hg.block k (Array.getElem?_eq_some_iff.1 ho).1 (fun e => by
      obtain ⟨_, o', ho', hc⟩ := hr k e.symm
      rw [ho] at ho'
      injection ho' with ho'
      subst ho'
      rw [hn] at hc
      cases hc)).trans ho⟩
theorem own_cells {w : World} {base : Nat} {e : TypeId} {size n : Nat} {v : Value} {xs : List Value} (h : w.ownsRow base e size v n xs) : ∀ g, v.ownBlock = some g → base ≤ g ∧ ∃ o : Obj, w.heap[g]? = some o ∧ o.isCells = true := by
  intro g hg
  rcases h.2 with ⟨rfl, _⟩ | ⟨g', cap, cur, rfl, e2, e3, _⟩
  · simp [Value.ownBlock] at hg
  · simp [Value.ownBlock] at hg
    subst hg
    exact ⟨e2, _, e3, rfl⟩
end
def Still {β : Type} (R : World → World → Prop) (J : β → World → Prop) : Prop := ∀ s A A', J s A → R A A' → J s A'

/-- **what an iterator does**: for whatever invariant that its own steps leave, and a round that keeps what it reads -/
def ItK {α : Type} (P : Program) (n g : Nat) (lb : Array Value) (encs : α → Array Value) (T E : Nat → Prop) (G : List α → α → World → Prop) (S Sp : List α → Prop) (w : World) : Prop :=
  ∀ (l : Nat) (J Jx : List α → World → Prop) (W : World), Up w W → Still (Keep T) J → Still (Keep T) Jx →
    (∀ pre x W1, J pre W1 → G pre x W1 → YieldAt Fence.wide (n - 1) P l (encs x) W1 fun e W' =>
      (e = .returned (.bool true) ∧ J (pre ++ [x]) W' ∧ KpR w.heap.size W.heap.size E W1 W') ∨ (e = .returned (.bool false) ∧ Jx (pre ++ [x]) W')) →
    J [] W →
    CallsIn Fence.wide n P g (#[.func (.yield l) #[] #[]] ++ lb) W fun e W' => (∃ v, e = .returned v) ∧ ((∃ xs, S xs ∧ J xs W') ∨ (∃ pre, Sp pre ∧ Jx pre W'))

/-- how a round may be left -/
def itPost {α : Type} (B : Nat) (E : Nat → Prop) (I : List α → World → Prop) (Ix : Code → List α → World → Prop) (xs : List α) (W : World) : Exit → Act → World → Prop
  | .normal, _, W' => KpR B B E W W' ∧ I xs W'
  | .ret, _, W' => KpR B B E W W' ∧ Ix .ret xs W'
  | .exit id, _, W' => KpR B B E W W' ∧ Ix (.exit id) xs W'
  | .goto t, _, W' => KpR B B E W W' ∧ Ix (.goto t) xs W'
  | .panic _, _, _ => False
  | .outgrown, _, _ => False

theorem range_it {α : Type} {P : Program} {n : Nat} {g : Operand} {ps : Array Tmp} {assign body : Code} {Q : Exit → Act → World → Prop} {a : Act} {w : World}
    {gf : Nat} {lb : Array Value} (hg : a.eval g = .func (.func gf) #[] lb) (eg : ∀ args w, (callFunc gf args).run P w = .ok (.enter gf args) w)
    {encs : α → Array Value} {T E : Nat → Prop} {G : List α → α → World → Prop} {S Sp : List α → Prop} (hseq : ItK P (n - 1) gf lb encs T E G S Sp w) (hT : ∀ k, T k → k < w.heap.size) (hps : ∀ x, (encs x).size = ps.size)
    (I : List α → World → Prop) (Ix : Code → List α → World → Prop) (hI : Still (Calm w.heap.size T) I) (hIx : ∀ c, Still (Calm w.heap.size T) (Ix c)) (h0 : I [] w) (Ax : List α → α → Act → World → Prop) (hAx : ∀ pre x a', Still (Calm w.heap.size T) (fun (_ : Unit) W => Ax pre x a' W))
    (hassign : ∀ (l : Nat) (pre : List α) (x : α) (W : World) (K : Act → World → Prop), I pre W → G pre x W → (∀ a' W', KpR w.heap.size w.heap.size E W W' → I pre W' → Ax pre x a' W' → K a' W') →
      assign.wpIn (Fence.wide.inRound l) (n - 1 - 1) P (Exit.then K (fun _ _ _ => False)) { tmps := (ps.zip (encs x)).foldl (fun t (p, v) => t.setIfInBounds p v) a.tmps, defers := [] } W)
    (hbody : ∀ (l : Nat) (pre : List α) (x : α) (a' : Act) (W : World), w.heap.size ≤ l → (∃ r, W.heap[l]? = some (.loop r)) → I pre W → Ax pre x a' W → body.wpIn (Fence.wide.inRound l) (n - 1 - 1) P (itPost w.heap.size E I Ix (pre ++ [x]) W) a' W)
    (hdone : ∀ (D : Nat) (xs : List α) (W : World), w.heap.size ≤ D → S xs → I xs W → W.heap[D]? = some (.deferred (some [])) → Q .normal { a with defers := { target := .collected D, args := #[] } :: a.defers } W)
    (hstop : ∀ (D : Nat) (c : Code) (pre : List α) (W : World), w.heap.size ≤ D → Sp pre → Ix c pre W → W.heap[D]? = some (.deferred (some [])) → c.wpIn Fence.wide n P Q { a with defers := { target := .collected D, args := #[] } :: a.defers } W) :
    (Code.rangeFunc g ps assign body).wpIn Fence.wide n P Q a w := by
  refine wpIn_rangeFunc ?_
  intro fn hfn
  rw [Fence.wide_round]
  obtain ⟨rec, hrec⟩ : ∃ rec : LoopState → Option Code → Loop, rec = fun st pe => { state := st, pending := pe, fn, tmps := a.tmps, params := ps, assign, body, defers := w.heap.size } := ⟨_, rfl⟩
  obtain ⟨W1, hW1⟩ : ∃ W1, (w.alloc (.deferred (some []))).alloc (.loop (rec .ready none)) = W1 := ⟨_, rfl⟩
  have hz1 : W1.heap.size = w.heap.size + 2 := by rw [← hW1]; simp
  have hL1 : W1.heap[w.heap.size + 1]? = some (.loop (rec .ready none)) := by
    rw [← hW1]; have := World.alloc_heap_new (w.alloc (.deferred (some []))) (.loop (rec .ready none)); rwa [World.size_alloc] at this
  have hK1 : W1.heap[w.heap.size]? = some (.deferred (some [])) := by
    rw [← hW1]; exact (Below.heap_alloc _ _ _ (by simp)).trans (World.alloc_heap_new w _)
  have hb1 : Up w W1 := by
    rw [← hW1]; exact ((Up.refl w).alloc _).alloc _
  have hI1 : I [] W1 := hI _ _ _ h0 (Calm.of_keep (Keep.of_up hb1))
  refine ⟨w.heap.size + 1, [{ target := .collected w.heap.size, args := #[] }], W1, { target := .fn (.func gf) lb, args := #[.func (.yield (w.heap.size + 1)) #[] #[]] }, W1, gf,
    #[.func (.yield (w.heap.size + 1)) #[] #[]] ++ lb, W1, ?_, ?_, ?_, ?_, fun h => by simp [Fence.wide] at h, ?_⟩
  · rw [← hW1, hrec]; exact run_enterLoop_outer _ _ _ _ _
  · simp only [resolve, hg]
    simp [go_sem]
  · intro f' hf'; trivial
  · simp [invoke, go_sem, eg]
  · have keepT : ∀ {A A' : World} {k : Nat} {o : Obj}, Keep T A A' → w.heap.size ≤ k → A.heap[k]? = some o → A'.heap[k]? = some o := fun hk hle ho =>
      (hk.block _ (Array.getElem?_eq_some_iff.1 ho).1 (fun ht => by have := hT _ ht; omega)).trans ho
    refine (hseq (w.heap.size + 1)
      (fun pre W => I pre W ∧ W.heap[w.heap.size + 1]? = some (.loop (rec .ready none)) ∧ W.heap[w.heap.size]? = some (.deferred (some [])))
      (fun pre W => ∃ c, Ix c pre W ∧ W.heap[w.heap.size + 1]? = some (.loop (rec .done (some c))) ∧ W.heap[w.heap.size]? = some (.deferred (some [])))
      W1 hb1
      (fun s A A' hs hk => ⟨hI s A A' hs.1 (Calm.of_keep hk), keepT hk (by omega) hs.2.1, keepT hk (by omega) hs.2.2⟩)
      (fun s A A' hs hk => by
        obtain ⟨c, hc, hl, hd⟩ := hs
        exact ⟨c, hIx c s A A' hc (Calm.of_keep hk), keepT hk (by omega) hl, keepT hk (by omega) hd⟩)
      ?_ ⟨hI1, hL1, hK1⟩).mono ?_
    · rintro pre x W ⟨hi, hl, hk⟩ hGx
      have hlt : w.heap.size + 1 < W.heap.size := (Array.getElem?_eq_some_iff.1 hl).1
      have hy := run_yield (P := P) (args := encs x) hl (by rw [hrec]; exact hps x)
      rw [hrec] at hy
      refine ⟨fn, _, assign, body, hy, roundIn_of_wpIn hfn (hassign _ pre x W _ hi hGx ?_)⟩
      clear hy
      intro a' Wa hkfa hia hax
      replace hl := hkfa.other _ _ (by omega) hl rfl
      replace hk := hkfa.other _ _ (Nat.le_refl _) hk rfl
      replace hlt : w.heap.size + 1 < Wa.heap.size := (Array.getElem?_eq_some_iff.1 hl).1
      replace hi := hia
      clear hia
      revert hkfa
      generalize W = Wb
      intro hkfa
      obtain ⟨W, rfl⟩ : ∃ W, W = Wa := ⟨_, rfl⟩
      refine ⟨_, run_beginRound hl (by rw [hrec]), ?_⟩
      have hl2 : (W.putObj (w.heap.size + 1) (.loop { rec .ready none with state := .busy })).heap[w.heap.size + 1]? = some (.loop { rec .ready none with state := .busy }) := World.putObj_heap_same hlt
      have hk2 : (W.putObj (w.heap.size + 1) (.loop { rec .ready none with state := .busy })).heap[w.heap.size]? = some (.deferred (some [])) := (World.putObj_heap_other (by omega)).trans hk
      have hw2 : KpR w.heap.size W1.heap.size E W (W.putObj (w.heap.size + 1) (.loop { rec .ready none with state := .busy })) := KpR.putObj _ (by omega) (by omega)
      refine wpIn_mono (hbody _ pre x a' _ (by omega) ⟨_, hl2⟩ (hI _ _ _ hi (Calm.putObj _ (by omega) hl rfl)) ((hAx pre x a') () _ _ hax (Calm.putObj _ (by omega) hl rfl))) ?_
      have fin : ∀ (jump : Option Code) (W3 : World), KpR w.heap.size w.heap.size E (W.putObj (w.heap.size + 1) (.loop { rec .ready none with state := .busy })) W3 →
          (Instr.endRound (w.heap.size + 1) jump).run P W3 = .ok (.bool jump.isNone) (W3.putObj (w.heap.size + 1) (.loop (rec (if jump.isNone then .ready else .done) jump))) ∧
          W3.heap[w.heap.size + 1]? = some (.loop { rec .ready none with state := .busy }) ∧
          (W3.putObj (w.heap.size + 1) (.loop (rec (if jump.isNone then .ready else .done) jump))).heap[w.heap.size + 1]? = some (.loop (rec (if jump.isNone then .ready else .done) jump)) ∧
          (W3.putObj (w.heap.size + 1) (.loop (rec (if jump.isNone then .ready else .done) jump))).heap[w.heap.size]? = some (.deferred (some [])) := fun jump W3 hk3 => by
        have hl3 := hk3.other _ _ (by omega) hl2 rfl
        have := run_endRound (P := P) jump hl3
        rw [hrec] at this ⊢
        exact ⟨this, by rw [hrec] at hl3; exact hl3, World.putObj_heap_same (Array.getElem?_eq_some_iff.1 hl3).1, (World.putObj_heap_other (by omega)).trans (hk3.other _ _ (Nat.le_refl _) hk2 rfl)⟩
      rintro e a3 W3 hp
      cases e with
      | normal =>
        obtain ⟨hk3, hi3⟩ := hp
        obtain ⟨hr, hl3, hl4, hk4⟩ := fin none W3 hk3
        exact ⟨_, _, hr, .inl ⟨rfl, ⟨hI _ _ _ hi3 (Calm.putObj _ (by omega) hl3 rfl), hl4, hk4⟩, (hkfa.mono (by omega)).trans ((hw2.trans (hk3.mono (by omega))).trans (KpR.putObj _ (by omega) (by omega)))⟩⟩
      | ret =>
        obtain ⟨hk3, hi3⟩ := hp
        obtain ⟨hr, hl3, hl4, hk4⟩ := fin (some .ret) W3 hk3
        exact ⟨_, _, hr, .inr ⟨rfl, .ret, hIx _ _ _ _ hi3 (Calm.putObj _ (by omega) hl3 rfl), hl4, hk4⟩⟩
      | exit id =>
        obtain ⟨hk3, hi3⟩ := hp
        obtain ⟨hr, hl3, hl4, hk4⟩ := fin (some (.exit id)) W3 hk3
        exact ⟨_, _, hr, .inr ⟨rfl, .exit id, hIx _ _ _ _ hi3 (Calm.putObj _ (by omega) hl3 rfl), hl4, hk4⟩⟩
      | goto t =>
        obtain ⟨hk3, hi3⟩ := hp
        obtain ⟨hr, hl3, hl4, hk4⟩ := fin (some (.goto t)) W3 hk3
        exact ⟨_, _, hr, .inr ⟨rfl, .goto t, hIx _ _ _ _ hi3 (Calm.putObj _ (by omega) hl3 rfl), hl4, hk4⟩⟩
      | panic ch => exact hp.elim
      | outgrown => exact hp.elim
    · rintro e W2 ⟨⟨v, rfl⟩, (⟨xs, hS, hi, hl, hk⟩ | ⟨pre, hSp, c, hi, hl, hk⟩)⟩
      · exact ⟨none, _, by have := run_endLoop (P := P) hl (by rw [hrec]; simp); rw [hrec] at this; exact this, hdone _ xs _ (Nat.le_refl _) hS (hI _ _ _ hi (Calm.putObj _ (by omega) hl rfl)) ((World.putObj_heap_other (by omega)).trans hk)⟩
      · exact ⟨some c, _, by have := run_endLoop (P := P) hl (by rw [hrec]; simp); rw [hrec] at this; exact this, hstop _ c pre _ (Nat.le_refl _) hSp (hIx c _ _ _ hi (Calm.putObj _ (by omega) hl rfl)) ((World.putObj_heap_other (by omega)).trans hk)⟩
/-- an iterator that stands ready in a world, and in every later one: D are the blocks that it reads -/
def ItFor {α : Type} (P : Program) (gf : Nat) (lb : Array Value) (encs : α → Array Value) (T D : Nat → Prop) (G : List α → α → World → Prop) (S Sp : List α → Prop) (w : World) : Prop :=
  ∀ n w1 E, Up w w1 → (∀ k, D k → ¬ E k) → ItK P n gf lb encs T E G S Sp w1
/-! A region within a round, walked as a plain one. -/
def noDefB (ops : Array Oper) : Bool := ops.all fun o => match o.op with | .defer .. => false | _ => true
theorem noDefB_spec {ops : Array Oper} (h : noDefB ops = true) {i : Nat} {o : Oper} (ho : ops[i]? = some o) : ∀ c, o.op ≠ .defer c := by
  intro c e
  have := Array.all_eq_true_iff_forall_mem.1 h o (Array.mem_of_getElem? ho)
  simp [e] at this
section
variable {P : Program} {Q : Exit → Act → World → Prop} {ops : Array Oper} {l n : Nat}
theorem oper_in {o : Oper} {a : Act} {w : World} {K : Act → World → Prop} (hd : ∀ c, o.op ≠ .defer c) (h : o.wp P a w K Q) : o.wpIn (Fence.wide.inRound l) n P a w K Q := by
  refine ⟨fun _ _ => trivial, ?_⟩
  rw [Oper.semAt_eq _ _ _ hd]
  unfold Oper.wp at h
  generalize (execOp a.eval o).run P w = r at *
  cases r with
  | ok x w' =>
    cases x <;> simp only [Oper.upon] at h <;> simp only [Oper.uponIn]
    case value => exact h
    case skip => exact h
    case defer => exact h
    case enter f args => exact ⟨fun hh => by simp [Fence.wide, Fence.inRound] at hh, CallsIn.inRound l (callsIn_wide.2 h)⟩
    case row row args =>
      refine ⟨fun hh => by simp [Fence.wide, Fence.inRound] at hh, fun c cs _ => ?_⟩
      obtain ⟨v, w2, h1, h2⟩ := h c cs
      exact ⟨v, w2, h1, (StepsIn.of_steps h2).mono fun m _ => fenced_wide P m⟩
  | halt x w' => cases x <;> simp only [Oper.upon] at h <;> simp only [Oper.uponIn]; exact h
theorem ops_in (hnd : noDefB ops = true) (hLO : ∀ a w, ¬ Q .outgrown a w) : ∀ (is : List Nat) (a : Act) (w : World), wpOps P ops Q is a w → wpOpsIn (Fence.wide.inRound l) n P ops Q is a w
  | [], a, w, h => h
  | i :: rest, a, w, h => by
    unfold wpOpsIn
    rw [wpOps_cons] at h
    unfold wpOp at h
    cases ho : ops[i]? with
    | none =>
      simp only [ho] at h ⊢
      exact ops_in hnd hLO rest a w h
    | some o =>
      simp only [ho] at h ⊢
      split
      · rename_i hw
        simp only [hw, if_true] at h
        rcases h with h | ⟨_, x, y, hf⟩
        · exact oper_in (noDefB_spec hnd ho) (Oper.wp_mono (fun a w => ops_in hnd hLO rest a w) h)
        · exact absurd hf (hLO x y)
      · rename_i hw
        simp only [hw] at h
        exact ⟨fun _ _ => trivial, ops_in hnd hLO rest _ w h⟩
theorem in_region {id : Nat} {L : List Oper} {a : Act} {w : World} (hnd : noDefB L.toArray = true) (hLO : ∀ a w, ¬ Q .outgrown a w) (h : wpList P L.toArray Q L a w) :
    (Code.region id L.toArray false).wpIn (Fence.wide.inRound l) n P Q a w := by
  refine wpIn_region (ops_in hnd hLO _ a w ?_)
  have := wpOps_eq_wpList (P := P) (Q := Q) (ops := L.toArray) L 0 (by simp)
  rw [List.range_eq_range']
  simp only [List.size_toArray]
  rw [this]
  exact h
end
end Go.Proofs.YtamfjgioajmnpaaGreatDoor
namespace Go.Proofs.YtamfjgioajmnpaaGreatDoor
open Go.RowKit
set_option linter.unusedVariables false
set_option linter.unusedSimpArgs false
attribute [local go_sem] Oper.semAt_some

end Go.Proofs.YtamfjgioajmnpaaGreatDoor
namespace Go.Proofs.YtamfjgioajmnpaaGreatDoor
open Go.RowKit
set_option linter.unusedVariables false
set_option linter.unusedSimpArgs false

/-- the numbers below n of which f holds -/
def those (f : Nat → Bool) (n : Nat) : List Int := ((List.range n).filter f).map fun o : Nat => (o : Int)
theorem those_succ (f : Nat → Bool) (n : Nat) : those f (n + 1) = if f n then those f n ++ [(n : Int)] else those f n := by
  unfold those
  rw [List.range_succ, List.filter_append]
  by_cases h : f n
  · simp [h]
  · simp [h]
theorem those_t {f : Nat → Bool} {n : Nat} (h : f n = true) : those f (n + 1) = those f n ++ [(n : Int)] := by rw [those_succ, if_pos h]
theorem those_f {f : Nat → Bool} {n : Nat} (h : f n = false) : those f (n + 1) = those f n := by rw [those_succ, if_neg (by rw [h]; simp)]
theorem those_pre (f : Nat → Bool) {m n : Nat} (h : m ≤ n) : those f m <+: those f n := by
  induction n with
  | zero => obtain rfl : m = 0 := by omega
            exact List.prefix_refl _
  | succ n ih =>
    rcases Nat.lt_or_ge m (n + 1) with hlt | hge
    · have h1 := ih (by omega)
      rw [those_succ]
      split
      · exact h1.trans (List.prefix_append _ _)
      · exact h1
    · obtain rfl : m = n + 1 := by omega
      exact List.prefix_refl _
theorem mem_those {f : Nat → Bool} {n : Nat} {x : Int} : x ∈ those f n ↔ ∃ k : Nat, x = k ∧ k < n ∧ f k = true := by
  unfold those
  simp only [List.mem_map, List.mem_filter, List.mem_range]
  constructor
  · rintro ⟨k, ⟨h1, h2⟩, rfl⟩; exact ⟨k, rfl, h1, h2⟩
  · rintro ⟨k, rfl, h1, h2⟩; exact ⟨k, ⟨h1, h2⟩, rfl⟩
section
variable {P : Program}
end
end Go.Proofs.YtamfjgioajmnpaaGreatDoor
namespace Go.Proofs.YtamfjgioajmnpaaGreatDoor
open Go.RowKit
set_option linter.unusedVariables false
set_option linter.unusedSimpArgs false

def isAt (L : List Cl) (k : Nat) : Bool := (L.getD k Cl.zero).at_
/-- the places of attributes -/
def Spc.attrs (X : Spc) : List Int := those (isAt X.L) X.L.length
theorem isAt_of {L : List Cl} {k : Nat} {c : Cl} (h : L[k]? = some c) : isAt L k = c.at_ := by unfold isAt; rw [List.getD, h]; rfl

end Go.Proofs.YtamfjgioajmnpaaGreatDoor
