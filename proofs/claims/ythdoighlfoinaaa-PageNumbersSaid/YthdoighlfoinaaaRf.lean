/-
  A range over a function where the round and the iterator each have blocks of their own: N are the iterator's, which a round leaves as they are. No condition.
-/
import Derived.Test.YthdoighlfoinaaaIter
import Derived.RangeFuncSeq
namespace Go.Proofs.Ythdoighlfoinaaa
open Go.RowKit
set_option linter.unusedVariables false
set_option linter.unusedSimpArgs false

/-- the blocks of N are as they were -/
def Held (N : Nat → Prop) (w w' : World) : Prop := ∀ k, N k → w'.heap[k]? = w.heap[k]?
theorem Held.refl (N : Nat → Prop) (w : World) : Held N w w := fun _ _ => rfl
theorem Held.trans {N : Nat → Prop} {a b c : World} (h : Held N a b) (k : Held N b c) : Held N a c := fun i hi => (k i hi).trans (h i hi)
theorem Held.mono {N N' : Nat → Prop} {a b : World} (h : Held N a b) (hn : ∀ k, N' k → N k) : Held N' a b := fun i hi => h i (hn i hi)
theorem Held.of_keep {N E : Nat → Prop} {a b : World} (h : Keep E a b) (hn : ∀ k, N k → k < a.heap.size ∧ ¬ E k) : Held N a b := fun i hi => h.block i (hn i hi).1 (hn i hi).2
theorem Held.of_up {N : Nat → Prop} {a b : World} (h : Up a b) (hn : ∀ k, N k → k < a.heap.size) : Held N a b := fun i hi => h.block i (hn i hi)
/-- what holds beside blocks N that are another's: that one's own steps leave it -/
def Own2 {β : Type} (J : (Nat → Prop) → β → World → Prop) : Prop :=
  ∀ (N N' : Nat → Prop) s W W', J N s W → Keep N W W' → (∀ k, N' k → N k ∨ (W.heap.size ≤ k ∧ k < W'.heap.size)) → J N' s W'
theorem Own2.up {β : Type} {J : (Nat → Prop) → β → World → Prop} (h : Own2 J) {N : Nat → Prop} {s : β} {W W' : World} (hj : J N s W) (hu : Up W W') : J N s W' := h N N s W W' hj (Keep.of_up hu) (fun _ hk => .inl hk)
theorem Own2.less {β : Type} {J : (Nat → Prop) → β → World → Prop} (h : Own2 J) {N N' : Nat → Prop} {s : β} {W : World} (hj : J N s W) (hn : ∀ k, N' k → N k) : J N' s W := h N N' s W W hj (Keep.refl _ _) (fun k hk => .inl (hn k hk))

/-- **what an iterator does**: T are blocks that it writes, V0 is how it must lie at first, V what it reads of in each round; for whatever invariant that its own steps leave -/
def ItN {α : Type} (P : Program) (g : Nat) (lb : Array Value) (encs : α → Array Value) (T : Nat → Prop) (V0 V : World → Prop) (G : List α → α → World → Prop) (S Sp : List α → Prop) : Prop :=
  ∀ (n l : Nat) (J Jx : (Nat → Prop) → List α → World → Prop) (N0 : Nat → Prop) (W : World), Own2 J → Own2 Jx → (∀ N pre W, J N pre W → V W) → (∀ k, T k → N0 k) → (∀ k, N0 k → k < W.heap.size) → V0 W →
    (∀ N pre x W1, J N pre W1 → G pre x W1 → YieldAt Fence.wide (n - 1) P l (encs x) W1 fun e W' =>
      (e = .returned (.bool true) ∧ J N (pre ++ [x]) W' ∧ Held N W1 W') ∨ (e = .returned (.bool false) ∧ Jx N (pre ++ [x]) W' ∧ Held N W1 W')) →
    J N0 [] W →
    CallsIn Fence.wide n P g (#[.func (.yield l) #[] #[]] ++ lb) W fun e W' => (∃ v, e = .returned v) ∧ ((∃ xs, S xs ∧ J N0 xs W') ∨ (∃ pre, Sp pre ∧ Jx N0 pre W'))

/-- how a round may be left -/
def itPostN {α : Type} (N : Nat → Prop) (I : (Nat → Prop) → List α → World → Prop) (Ix : Code → (Nat → Prop) → List α → World → Prop) (xs : List α) (W : World) : Exit → Act → World → Prop
  | .normal, _, W' => Held N W W' ∧ I N xs W'
  | .ret, _, W' => Held N W W' ∧ Ix .ret N xs W'
  | .exit id, _, W' => Held N W W' ∧ Ix (.exit id) N xs W'
  | .goto t, _, W' => Held N W W' ∧ Ix (.goto t) N xs W'
  | .panic _, _, _ => False
  | .outgrown, _, _ => False
theorem keep_put {N : Nat → Prop} {W : World} {l : Nat} (o' : Obj) (hn : N l) : Keep N W (W.putObj l o') :=
  ⟨rfl, rfl, rfl, by simp, fun k _ hk => World.putObj_heap_other (fun e => by subst e; exact hk hn)⟩

theorem range_n {α : Type} {P : Program} {n : Nat} {g : Operand} {ps : Array Tmp} {assign body : Code} {Q : Exit → Act → World → Prop} {a : Act} {w : World}
    {gf : Nat} {lb : Array Value} (hg : a.eval g = .func (.func gf) #[] lb) (eg : ∀ args w, (callFunc gf args).run P w = .ok (.enter gf args) w)
    {encs : α → Array Value} {T : Nat → Prop} {V0 V : World → Prop} {G : List α → α → World → Prop} {S Sp : List α → Prop} (hseq : ItN P gf lb encs T V0 V G S Sp) (hps : ∀ x, (encs x).size = ps.size)
    (N0 : Nat → Prop) (hN0 : ∀ k, N0 k → k < w.heap.size) (hT : ∀ k, T k → N0 k) (hV0 : ∀ W, Up w W → V0 W)
    (I : (Nat → Prop) → List α → World → Prop) (Ix : Code → (Nat → Prop) → List α → World → Prop) (hI : Own2 I) (hIx : ∀ c, Own2 (Ix c)) (hV : ∀ N pre W, I N pre W → V W) (h0 : I N0 [] w)
    (Ax : List α → α → Act → (Nat → Prop) → World → Prop) (hAx : ∀ pre x a', Own2 (fun N (_ : Unit) W => Ax pre x a' N W))
    (hassign : ∀ (l : Nat) (N : Nat → Prop) (pre : List α) (x : α) (W : World) (K : Act → World → Prop), (∀ k, N k → k < W.heap.size) → I N pre W → G pre x W → (∀ a' W', Held N W W' → I N pre W' → Ax pre x a' N W' → K a' W') →
      assign.wpIn (Fence.wide.inRound l) (n - 1 - 1) P (Exit.then K (fun _ _ _ => False)) { tmps := (ps.zip (encs x)).foldl (fun t (p, v) => t.setIfInBounds p v) a.tmps, defers := [] } W)
    (hbody : ∀ (l : Nat) (N : Nat → Prop) (pre : List α) (x : α) (a' : Act) (W : World), N l → (∃ r, W.heap[l]? = some (.loop r) ∧ N r.defers ∧ W.heap[r.defers]? = some (.deferred (some []))) → (∀ k, N k → k < W.heap.size) → I N pre W → Ax pre x a' N W →
      body.wpIn (Fence.wide.inRound l) (n - 1 - 1) P (itPostN N I Ix (pre ++ [x]) W) a' W)
    (hdone : ∀ (D : Nat) (N : Nat → Prop) (xs : List α) (W : World), w.heap.size ≤ D → N D → (∀ k, N0 k → N k) → S xs → I N xs W → W.heap[D]? = some (.deferred (some [])) → Q .normal { a with defers := { target := .collected D, args := #[] } :: a.defers } W)
    (hstop : ∀ (D : Nat) (N : Nat → Prop) (c : Code) (pre : List α) (W : World), w.heap.size ≤ D → N D → (∀ k, N0 k → N k) → Sp pre → Ix c N pre W → W.heap[D]? = some (.deferred (some [])) → c.wpIn Fence.wide n P Q { a with defers := { target := .collected D, args := #[] } :: a.defers } W) :
    (Code.rangeFunc g ps assign body).wpIn Fence.wide n P Q a w := by
  refine wpIn_rangeFunc ?_
  intro fn hfn
  rw [Fence.wide_round]
  obtain ⟨rec, hrec⟩ : ∃ rec : LoopState → Option Code → Loop, rec = fun st pe => { state := st, pending := pe, fn, tmps := a.tmps, params := ps, assign, body, defers := w.heap.size } := ⟨_, rfl⟩
  obtain ⟨W1, hW1⟩ : ∃ W1, (w.alloc (.deferred (some []))).alloc (.loop (rec .ready none)) = W1 := ⟨_, rfl⟩
  have hz1 : W1.heap.size = w.heap.size + 2 := by rw [← hW1]; simp
  have hL1 : W1.heap[w.heap.size + 1]? = some (.loop (rec .ready none)) := by
    rw [← hW1]; have := World.alloc_heap_new (w.alloc (.deferred (some []))) (.loop (rec .ready none)); rwa [World.size_alloc] at this
  have hK1 : W1.heap[w.heap.size]? = some (.deferred (some [])) := by
    rw [← hW1]; exact (Below.heap_alloc _ _ _ (by simp)).trans (World.alloc_heap_new w _)
  have hb1 : Up w W1 := by
    rw [← hW1]; exact ((Up.refl w).alloc _).alloc _
  obtain ⟨pl, hpl⟩ : ∃ pl : (Nat → Prop) → Nat → Prop, pl = fun N k => N k ∨ k = w.heap.size ∨ k = w.heap.size + 1 := ⟨_, rfl⟩
  have plN : ∀ {N : Nat → Prop} {k}, N k → pl N k := fun h => by rw [hpl]; exact .inl h
  have plD : ∀ {N : Nat → Prop}, pl N w.heap.size := by rw [hpl]; exact .inr (.inl rfl)
  have plL : ∀ {N : Nat → Prop}, pl N (w.heap.size + 1) := by rw [hpl]; exact .inr (.inr rfl)
  have hI1 : I (pl N0) [] W1 := hI _ _ _ _ _ h0 (Keep.of_up hb1) (fun k hk => by rw [hpl] at hk; rcases hk with h | h | h; exact .inl h; exact .inr (by omega); exact .inr (by omega))
  refine ⟨w.heap.size + 1, [{ target := .collected w.heap.size, args := #[] }], W1, { target := .fn (.func gf) lb, args := #[.func (.yield (w.heap.size + 1)) #[] #[]] }, W1, gf,
    #[.func (.yield (w.heap.size + 1)) #[] #[]] ++ lb, W1, ?_, ?_, ?_, ?_, fun h => by simp [Fence.wide] at h, ?_⟩
  · rw [← hW1, hrec]; exact run_enterLoop_outer _ _ _ _ _
  · simp only [resolve, hg]
    simp [go_sem]
  · intro f' hf'; trivial
  · simp [invoke, go_sem, eg]
  · have step : ∀ {N N' : Nat → Prop} {A A' : World} {o o2 : Obj}, Keep N A A' → (∀ k, N' k → N k ∨ (A.heap.size ≤ k ∧ k < A'.heap.size)) → ¬ N w.heap.size → ¬ N (w.heap.size + 1) → A.heap[w.heap.size + 1]? = some o → A.heap[w.heap.size]? = some o2 →
        ¬ N' w.heap.size ∧ ¬ N' (w.heap.size + 1) ∧ A'.heap[w.heap.size + 1]? = some o ∧ A'.heap[w.heap.size]? = some o2 ∧ (∀ k, pl N' k → pl N k ∨ (A.heap.size ≤ k ∧ k < A'.heap.size)) ∧ Keep (pl N) A A' := fun hk hn h1 h2 hl hd => by
      have l1 := (Array.getElem?_eq_some_iff.1 hl).1
      have l2 := (Array.getElem?_eq_some_iff.1 hd).1
      refine ⟨fun h => ?_, fun h => ?_, (hk.block _ l1 h2).trans hl, (hk.block _ l2 h1).trans hd, fun k h => ?_, hk.mono fun k h => plN h⟩
      · rcases hn _ h with h | h
        · exact h1 h
        · omega
      · rcases hn _ h with h | h
        · exact h2 h
        · omega
      · rw [hpl] at h
        rcases h with h | rfl | rfl
        · rcases hn _ h with h | h
          · exact .inl (plN h)
          · exact .inr h
        · exact .inl plD
        · exact .inl plL
    refine (hseq (n - 1) (w.heap.size + 1)
      (fun N pre W => ¬ N w.heap.size ∧ ¬ N (w.heap.size + 1) ∧ (∀ k, N k → k < W.heap.size) ∧ I (pl N) pre W ∧ W.heap[w.heap.size + 1]? = some (.loop (rec .ready none)) ∧ W.heap[w.heap.size]? = some (.deferred (some [])))
      (fun N pre W => ∃ c, ¬ N w.heap.size ∧ ¬ N (w.heap.size + 1) ∧ Ix c (pl N) pre W ∧ W.heap[w.heap.size + 1]? = some (.loop (rec .done (some c))) ∧ W.heap[w.heap.size]? = some (.deferred (some [])))
      N0 W1
      ?own ?ownx
      (fun N pre W h => hV _ _ _ h.2.2.2.1) hT (fun k hk => by have := hN0 k hk; omega) (hV0 _ hb1)
      ?_ ⟨fun h => by have := hN0 _ h; omega, fun h => by have := hN0 _ h; omega, fun k hk => by have := hN0 k hk; omega, hI1, hL1, hK1⟩).mono ?_
    case own =>
      rintro N N' s A A' ⟨h1, h2, hz, hi, hl, hd⟩ hk hn
      obtain ⟨g1, g2, g3, g4, g5, g6⟩ := step hk hn h1 h2 hl hd
      exact ⟨g1, g2, fun k h => by
        rcases hn k h with h | h
        · have := hz k h; have := hk.size; omega
        · exact h.2, hI _ _ _ _ _ hi g6 g5, g3, g4⟩
    case ownx =>
      rintro N N' s A A' ⟨c, h1, h2, hi, hl, hd⟩ hk hn
      obtain ⟨g1, g2, g3, g4, g5, g6⟩ := step hk hn h1 h2 hl hd
      exact ⟨c, g1, g2, hIx c _ _ _ _ _ hi g6 g5, g3, g4⟩
    · rintro N pre x W ⟨h1, h2, hzN, hi, hl, hk⟩ hGx
      have hplz : ∀ k, pl N k → k < W.heap.size := fun k h => by
        rw [hpl] at h
        rcases h with h | rfl | rfl
        · exact hzN k h
        · exact (Array.getElem?_eq_some_iff.1 hk).1
        · exact (Array.getElem?_eq_some_iff.1 hl).1
      have hlt : w.heap.size + 1 < W.heap.size := (Array.getElem?_eq_some_iff.1 hl).1
      have hy := run_yield (P := P) (args := encs x) hl (by rw [hrec]; exact hps x)
      rw [hrec] at hy
      refine ⟨fn, _, assign, body, hy, roundIn_of_wpIn hfn (hassign _ (pl N) pre x W _ hplz hi hGx ?_)⟩
      clear hy
      intro a' Wa hkfa hia hax
      replace hl := (hkfa _ plL).trans hl
      replace hk := (hkfa _ plD).trans hk
      replace hlt : w.heap.size + 1 < Wa.heap.size := (Array.getElem?_eq_some_iff.1 hl).1
      replace hi := hia
      clear hia
      revert hkfa
      revert hplz
      revert hzN
      generalize W = Wb
      intro hzN hplz hkfa
      obtain ⟨W, rfl⟩ : ∃ W, W = Wa := ⟨_, rfl⟩
      have hplW : ∀ k, pl N k → k < W.heap.size := fun k h => by
        have h1 := hkfa k h
        have h2 := hplz k h
        rw [Array.getElem?_eq_getElem h2] at h1
        exact (Array.getElem?_eq_some_iff.1 h1).1
      refine ⟨_, run_beginRound hl (by rw [hrec]), ?_⟩
      have hl2 : (W.putObj (w.heap.size + 1) (.loop { rec .ready none with state := .busy })).heap[w.heap.size + 1]? = some (.loop { rec .ready none with state := .busy }) := World.putObj_heap_same hlt
      have hk2 : (W.putObj (w.heap.size + 1) (.loop { rec .ready none with state := .busy })).heap[w.heap.size]? = some (.deferred (some [])) := (World.putObj_heap_other (by omega)).trans hk
      have hp2 : ∀ o', Held N W (W.putObj (w.heap.size + 1) o') := fun o' k hk => World.putObj_heap_other (fun e => by subst e; exact h2 hk)
      refine wpIn_mono (hbody _ (pl N) pre x a' _ plL ⟨_, hl2, by rw [hrec]; exact plD, by rw [hrec]; rw [hrec] at hk2; exact hk2⟩ (fun k h => by simpa using hplW k h) (hI _ _ _ _ _ hi (keep_put _ plL) (fun _ h => .inl h)) (hAx pre x a' _ _ () _ _ hax (keep_put _ plL) (fun _ h => .inl h))) ?_
      have fin : ∀ (jump : Option Code) (W3 : World), Held (pl N) (W.putObj (w.heap.size + 1) (.loop { rec .ready none with state := .busy })) W3 →
          (Instr.endRound (w.heap.size + 1) jump).run P W3 = .ok (.bool jump.isNone) (W3.putObj (w.heap.size + 1) (.loop (rec (if jump.isNone then .ready else .done) jump))) ∧
          W3.heap[w.heap.size + 1]? = some (.loop { rec .ready none with state := .busy }) ∧
          (W3.putObj (w.heap.size + 1) (.loop (rec (if jump.isNone then .ready else .done) jump))).heap[w.heap.size + 1]? = some (.loop (rec (if jump.isNone then .ready else .done) jump)) ∧
          (W3.putObj (w.heap.size + 1) (.loop (rec (if jump.isNone then .ready else .done) jump))).heap[w.heap.size]? = some (.deferred (some [])) ∧
          Held N Wb (W3.putObj (w.heap.size + 1) (.loop (rec (if jump.isNone then .ready else .done) jump))) := fun jump W3 hk3 => by
        have hl3 := (hk3 _ plL).trans hl2
        have := run_endRound (P := P) jump hl3
        rw [hrec] at this ⊢
        refine ⟨this, by rw [hrec] at hl3; exact hl3, World.putObj_heap_same (Array.getElem?_eq_some_iff.1 hl3).1, (World.putObj_heap_other (by omega)).trans ((hk3 _ plD).trans hk2), ?_⟩
        refine (hkfa.mono (fun k h => plN h)).trans (((hp2 _).trans (hk3.mono (fun k h => plN h))).trans fun k hk => World.putObj_heap_other (fun e => by subst e; exact h2 hk))
      rintro e a3 W3 hp
      cases e with
      | normal =>
        obtain ⟨hk3, hi3⟩ := hp
        obtain ⟨hr, hl3, hl4, hk4, hh⟩ := fin none W3 hk3
        exact ⟨_, _, hr, .inl ⟨rfl, ⟨h1, h2, fun k h => by
          have h4 := hh k h
          rw [Array.getElem?_eq_getElem (hzN k h)] at h4
          exact (Array.getElem?_eq_some_iff.1 h4).1, hI _ _ _ _ _ hi3 (keep_put _ plL) (fun _ h => .inl h), hl4, hk4⟩, hh⟩⟩
      | ret =>
        obtain ⟨hk3, hi3⟩ := hp
        obtain ⟨hr, hl3, hl4, hk4, hh⟩ := fin (some .ret) W3 hk3
        exact ⟨_, _, hr, .inr ⟨rfl, ⟨.ret, h1, h2, hIx _ _ _ _ _ _ hi3 (keep_put _ plL) (fun _ h => .inl h), hl4, hk4⟩, hh⟩⟩
      | exit id =>
        obtain ⟨hk3, hi3⟩ := hp
        obtain ⟨hr, hl3, hl4, hk4, hh⟩ := fin (some (.exit id)) W3 hk3
        exact ⟨_, _, hr, .inr ⟨rfl, ⟨.exit id, h1, h2, hIx _ _ _ _ _ _ hi3 (keep_put _ plL) (fun _ h => .inl h), hl4, hk4⟩, hh⟩⟩
      | goto t =>
        obtain ⟨hk3, hi3⟩ := hp
        obtain ⟨hr, hl3, hl4, hk4, hh⟩ := fin (some (.goto t)) W3 hk3
        exact ⟨_, _, hr, .inr ⟨rfl, ⟨.goto t, h1, h2, hIx _ _ _ _ _ _ hi3 (keep_put _ plL) (fun _ h => .inl h), hl4, hk4⟩, hh⟩⟩
      | panic ch => exact hp.elim
      | outgrown => exact hp.elim
    · rintro e W2 ⟨⟨v, rfl⟩, (⟨xs, hS, h1, h2, -, hi, hl, hk⟩ | ⟨pre, hSp, c, h1, h2, hi, hl, hk⟩)⟩
      · exact ⟨none, _, by have := run_endLoop (P := P) hl (by rw [hrec]; simp); rw [hrec] at this; exact this, hdone _ (pl N0) xs _ (Nat.le_refl _) plD (fun k h => plN h) hS (hI _ _ _ _ _ hi (keep_put _ plL) (fun _ h => .inl h)) ((World.putObj_heap_other (by omega)).trans hk)⟩
      · exact ⟨some c, _, by have := run_endLoop (P := P) hl (by rw [hrec]; simp); rw [hrec] at this; exact this, hstop _ (pl N0) c pre _ (Nat.le_refl _) plD (fun k h => plN h) hSp (hIx c _ _ _ _ _ hi (keep_put _ plL) (fun _ h => .inl h)) ((World.putObj_heap_other (by omega)).trans hk)⟩
theorem RoundIn.inR {F : Fence} {n : Nat} {P : Program} {l l' : Nat} {f : FuncId} {tmps : Array Value} {assign body : Code} {w : World} {R : Ending → World → Prop} (h : RoundIn F n P l f tmps assign body w R) : RoundIn (F.inRound l') n P l f tmps assign body w R := h
theorem YieldAt.any {m m' : Nat} {P : Program} {l : Nat} {args : Array Value} {W : World} {R : Ending → World → Prop} (h : YieldAt Fence.wide m P l args W R) : YieldAt Fence.wide m' P l args W R := by
  obtain ⟨fn, tmps, assign, body, h1, h2⟩ := h
  exact ⟨fn, tmps, assign, body, h1, h2.1, fun c cs _ => h2.2 c cs (room_wide _)⟩
end Go.Proofs.Ythdoighlfoinaaa
