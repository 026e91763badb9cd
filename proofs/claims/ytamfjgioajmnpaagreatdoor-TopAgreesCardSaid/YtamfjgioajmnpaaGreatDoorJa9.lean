/-
A range over a function where the round and the iterator each have blocks of their own: N are the iterator's, which a round leaves as they are. No condition.
space's All as an iterator. No condition.
-/
import Derived.Test.YtamfjgioajmnpaaGreatDoorJa8
import Derived.RangeFuncSeq
import Derived.Test.YtamfjgioajmnpaaGreatDoorJa7
import Derived.Stop.RegionWithIn
import Derived.Shelf.Abstract
namespace Go.Proofs.YtamfjgioajmnpaaGreatDoor
open Go.RowKit
set_option linter.unusedVariables false
set_option linter.unusedSimpArgs false

/-- the blocks of N are as they were -/
def Held (N : Nat → Prop) (w w' : World) : Prop := ∀ k, N k → w'.heap[k]? = w.heap[k]?
theorem Held.refl (N : Nat → Prop) (w : World) : Held N w w := fun _ _ => rfl
theorem Held.trans {N : Nat → Prop} {a b c : World} (h : Held N a b) (k : Held N b c) : Held N a c := fun i hi => (k i hi).trans (h i hi)
theorem Held.mono {N N' : Nat → Prop} {a b : World} (h : Held N a b) (hn : ∀ k, N' k → N k) : Held N' a b := fun i hi => h i (hn i hi)
theorem Held.of_keep {N E : Nat → Prop} {a b : World} (h : Keep E a b) (hn : ∀ k, N k → k < a.heap.size ∧ ¬ E k) : Held N a b := fun i hi => h.block i (hn i hi).1 (hn i hi).2
theorem Held.of_up {N : Nat → Prop} {a b : World} (h : Up a b) (hn : ∀ k, N k → k < a.heap.size) : Held N a b := fun i hi => h.block i (hn i hi)
/-- what holds beside blocks N that are another's: that one's own steps leave it -/
def Own2 {β : Type} (J : (Nat → Prop) → β → World → Prop) : Prop :=
  ∀ (N N' : Nat → Prop) s W W', J N s W → Keep N W W' → (∀ k, N' k → N k ∨ (W.heap.size ≤ k ∧ k < W'.heap.size)) → J N' s W'
theorem Own2.up {β : Type} {J : (Nat → Prop) → β → World → Prop} (h : Own2 J) {N : Nat → Prop} {s : β} {W W' : World} (hj : J N s W) (hu : Up W W') : J N s W' := h N N s W W' hj (Keep.of_up hu) (fun _ hk => .inl hk)
theorem Own2.less {β : Type} {J : (Nat → Prop) → β → World → Prop} (h : Own2 J) {N N' : Nat → Prop} {s : β} {W : World} (hj : J N s W) (hn : ∀ k, N' k → N k) : J N' s W := h N N' s W W hj (Keep.refl _ _) (fun k hk => .inl (hn k hk))

/-- **what an iterator does**: T are blocks that it writes, V0 is how it must lie at first, V what it reads of in each round; for whatever invariant that its own steps leave -/
def ItN {α : Type} (P : Program) (g : Nat) (lb : Array Value) (encs : α → Array Value) (T : Nat → Prop) (V0 V : World → Prop) (G : List α → α → World → Prop) (S Sp : List α → Prop) : Prop :=
  ∀ (n l : Nat) (J Jx : (Nat → Prop) → List α → World → Prop) (N0 : Nat → Prop) (W : World), Own2 J → Own2 Jx → (∀ N pre W, J N pre W → V W) → (∀ k, T k → N0 k) → (∀ k, N0 k → k < W.heap.size) → V0 W →
    (∀ N pre x W1, J N pre W1 → G pre x W1 → YieldAt Fence.wide (n - 1) P l (encs x) W1 fun e W' =>
      (e = .returned (.bool true) ∧ J N (pre ++ [x]) W' ∧ Held N W1 W') ∨ (e = .returned (.bool false) ∧ Jx N (pre ++ [x]) W' ∧ Held N W1 W')) →
    J N0 [] W →
    CallsIn Fence.wide n P g (#[.func (.yield l) #[] #[]] ++ lb) W fun e W' => (∃ v, e = .returned v) ∧ ((∃ xs, S xs ∧ J N0 xs W') ∨ (∃ pre, Sp pre ∧ Jx N0 pre W'))

/-- how a round may be left -/
def itPostN {α : Type} (N : Nat → Prop) (I : (Nat → Prop) → List α → World → Prop) (Ix : Code → (Nat → Prop) → List α → World → Prop) (xs : List α) (W : World) : Exit → Act → World → Prop
  | .normal, _, W' => Held N W W' ∧ I N xs W'
  | .ret, _, W' => Held N W W' ∧ Ix .ret N xs W'
  | .exit id, _, W' => Held N W W' ∧ Ix (.exit id) N xs W'
  | .goto t, _, W' => Held N W W' ∧ Ix (.goto t) N xs W'
  | .panic _, _, _ => False
  | .outgrown, _, _ => False
theorem keep_put {N : Nat → Prop} {W : World} {l : Nat} (o' : Obj) (hn : N l) : Keep N W (W.putObj l o') :=
  ⟨rfl, rfl, rfl, by simp, fun k _ hk => World.putObj_heap_other (fun e => by subst e; exact hk hn)⟩

theorem range_n {α : Type} {P : Program} {n : Nat} {g : Operand} {ps : Array Tmp} {assign body : Code} {Q : Exit → Act → World → Prop} {a : Act} {w : World}
    {gf : Nat} {lb : Array Value} (hg : a.eval g = .func (.func gf) #[] lb) (eg : ∀ args w, (callFunc gf args).run P w = .ok (.enter gf args) w)
    {encs : α → Array Value} {T : Nat → Prop} {V0 V : World → Prop} {G : List α → α → World → Prop} {S Sp : List α → Prop} (hseq : ItN P gf lb encs T V0 V G S Sp) (hps : ∀ x, (encs x).size = ps.size)
    (N0 : Nat → Prop) (hN0 : ∀ k, N0 k → k < w.heap.size) (hT : ∀ k, T k → N0 k) (hV0 : ∀ W, Up w W → V0 W)
    (I : (Nat → Prop) → List α → World → Prop) (Ix : Code → (Nat → Prop) → List α → World → Prop) (hI : Own2 I) (hIx : ∀ c, Own2 (Ix c)) (hV : ∀ N pre W, I N pre W → V W) (h0 : I N0 [] w)
    (Ax : List α → α → Act → (Nat → Prop) → World → Prop) (hAx : ∀ pre x a', Own2 (fun N (_ : Unit) W => Ax pre x a' N W))
    (hassign : ∀ (l : Nat) (N : Nat → Prop) (pre : List α) (x : α) (W : World) (K : Act → World → Prop), (∀ k, N k → k < W.heap.size) → I N pre W → G pre x W → (∀ a' W', Held N W W' → I N pre W' → Ax pre x a' N W' → K a' W') →
      assign.wpIn (Fence.wide.inRound l) (n - 1 - 1) P (Exit.then K (fun _ _ _ => False)) { tmps := (ps.zip (encs x)).foldl (fun t (p, v) => t.setIfInBounds p v) a.tmps, defers := [] } W)
    (hbody : ∀ (l : Nat) (N : Nat → Prop) (pre : List α) (x : α) (a' : Act) (W : World), N l → (∃ r, W.heap[l]? = some (.loop r) ∧ N r.defers ∧ W.heap[r.defers]? = some (.deferred (some []))) → (∀ k, N k → k < W.heap.size) → I N pre W → Ax pre x a' N W →
      body.wpIn (Fence.wide.inRound l) (n - 1 - 1) P (itPostN N I Ix (pre ++ [x]) W) a' W)
    (hdone : ∀ (D : Nat) (N : Nat → Prop) (xs : List α) (W : World), w.heap.size ≤ D → N D → (∀ k, N0 k → N k) → S xs → I N xs W → W.heap[D]? = some (.deferred (some [])) → Q .normal { a with defers := { target := .collected D, args := #[] } :: a.defers } W)
    (hstop : ∀ (D : Nat) (N : Nat → Prop) (c : Code) (pre : List α) (W : World), w.heap.size ≤ D → N D → (∀ k, N0 k → N k) → Sp pre → Ix c N pre W → W.heap[D]? = some (.deferred (some [])) → c.wpIn Fence.wide n P Q { a with defers := { target := .collected D, args := #[] } :: a.defers } W) :
    (Code.rangeFunc g ps assign body).wpIn Fence.wide n P Q a w := by
  refine wpIn_rangeFunc ?_
  intro fn hfn
  rw [Fence.wide_round]
  obtain ⟨rec, hrec⟩ : ∃ rec : LoopState → Option Code → Loop, rec = fun st pe => { state := st, pending := pe, fn, tmps := a.tmps, params := ps, assign, body, defers := w.heap.size } := ⟨_, rfl⟩
  obtain ⟨W1, hW1⟩ : ∃ W1, (w.alloc (.deferred (some []))).alloc (.loop (rec .ready none)) = W1 := ⟨_, rfl⟩
  have hz1 : W1.heap.size = w.heap.size + 2 := by rw [← hW1]; simp
  have hL1 : W1.heap[w.heap.size + 1]? = some (.loop (rec .ready none)) := by
    rw [← hW1]; have := World.alloc_heap_new (w.alloc (.deferred (some []))) (.loop (rec .ready none)); rwa [World.size_alloc] at this
  have hK1 : W1.heap[w.heap.size]? = some (.deferred (some [])) := by
    rw [← hW1]; exact (Below.heap_alloc _ _ _ (by simp)).trans (World.alloc_heap_new w _)
  have hb1 : Up w W1 := by
    rw [← hW1]; exact ((Up.refl w).alloc _).alloc _
  obtain ⟨pl, hpl⟩ : ∃ pl : (Nat → Prop) → Nat → Prop, pl = fun N k => N k ∨ k = w.heap.size ∨ k = w.heap.size + 1 := ⟨_, rfl⟩
  have plN : ∀ {N : Nat → Prop} {k}, N k → pl N k := fun h => by rw [hpl]; exact .inl h
  have plD : ∀ {N : Nat → Prop}, pl N w.heap.size := by rw [hpl]; exact .inr (.inl rfl)
  have plL : ∀ {N : Nat → Prop}, pl N (w.heap.size + 1) := by rw [hpl]; exact .inr (.inr rfl)
  have hI1 : I (pl N0) [] W1 := hI _ _ _ _ _ h0 (Keep.of_up hb1) (fun k hk => by rw [hpl] at hk; rcases hk with h | h | h; exact .inl h; exact .inr (by omega); exact .inr (by omega))
  refine ⟨w.heap.size + 1, [{ target := .collected w.heap.size, args := #[] }], W1, { target := .fn (.func gf) lb, args := #[.func (.yield (w.heap.size + 1)) #[] #[]] }, W1, gf,
    #[.func (.yield (w.heap.size + 1)) #[] #[]] ++ lb, W1, ?_, ?_, ?_, ?_, fun h => by simp [Fence.wide] at h, ?_⟩
  · rw [← hW1, hrec]; exact run_enterLoop_outer _ _ _ _ _
  · simp only [resolve, hg]
    simp [go_sem]
  · intro f' hf'; trivial
  · simp [invoke, go_sem, eg]
  · have step : ∀ {N N' : Nat → Prop} {A A' : World} {o o2 : Obj}, Keep N A A' → (∀ k, N' k → N k ∨ (A.heap.size ≤ k ∧ k < A'.heap.size)) → ¬ N w.heap.size → ¬ N (w.heap.size + 1) → A.heap[w.heap.size + 1]? = some o → A.heap[w.heap.size]? = some o2 →
        ¬ N' w.heap.size ∧ ¬ N' (w.heap.size + 1) ∧ A'.heap[w.heap.size + 1]? = some o ∧ A'.heap[w.heap.size]? = some o2 ∧ (∀ k, pl N' k → pl N k ∨ (A.heap.size ≤ k ∧ k < A'.heap.size)) ∧ Keep (pl N) A A' := fun hk hn h1 h2 hl hd => by
      have l1 := (Array.getElem?_eq_some_iff.1 hl).1
      have l2 := (Array.getElem?_eq_some_iff.1 hd).1
      refine ⟨fun h => ?_, fun h => ?_, (hk.block _ l1 h2).trans hl, (hk.block _ l2 h1).trans hd, fun k h => ?_, hk.mono fun k h => plN h⟩
      · rcases hn _ h with h | h
        · exact h1 h
        · omega
      · rcases hn _ h with h | h
        · exact h2 h
        · omega
      · rw [hpl] at h
        rcases h with h | rfl | rfl
        · rcases hn _ h with h | h
          · exact .inl (plN h)
          · exact .inr h
        · exact .inl plD
        · exact .inl plL
    refine (hseq (n - 1) (w.heap.size + 1)
      (fun N pre W => ¬ N w.heap.size ∧ ¬ N (w.heap.size + 1) ∧ (∀ k, N k → k < W.heap.size) ∧ I (pl N) pre W ∧ W.heap[w.heap.size + 1]? = some (.loop (rec .ready none)) ∧ W.heap[w.heap.size]? = some (.deferred (some [])))
      (fun N pre W => ∃ c, ¬ N w.heap.size ∧ ¬ N (w.heap.size + 1) ∧ Ix c (pl N) pre W ∧ W.heap[w.heap.size + 1]? = some (.loop (rec .done (some c))) ∧ W.heap[w.heap.size]? = some (.deferred (some [])))
      N0 W1
      ?own ?ownx
      (fun N pre W h => hV _ _ _ h.2.2.2.1) hT (fun k hk => by have := hN0 k hk; omega) (hV0 _ hb1)
      ?_ ⟨fun h => by have := hN0 _ h; omega, fun h => by have := hN0 _ h; omega, fun k hk => by have := hN0 k hk; omega, hI1, hL1, hK1⟩).mono ?_
    case own =>
      rintro N N' s A A' ⟨h1, h2, hz, hi, hl, hd⟩ hk hn
      obtain ⟨g1, g2, g3, g4, g5, g6⟩ := step hk hn h1 h2 hl hd
      exact ⟨g1, g2, fun k h => by
        rcases hn k h with h | h
        · have := hz k h; have := hk.size; omega
        · exact h.2, hI _ _ _ _ _ hi g6 g5, g3, g4⟩
    case ownx =>
      rintro N N' s A A' ⟨c, h1, h2, hi, hl, hd⟩ hk hn
      obtain ⟨g1, g2, g3, g4, g5, g6⟩ := step hk hn h1 h2 hl hd
      exact ⟨c, g1, g2, hIx c _ _ _ _ _ hi g6 g5, g3, g4⟩
    · rintro N pre x W ⟨h1, h2, hzN, hi, hl, hk⟩ hGx
      have hplz : ∀ k, pl N k → k < W.heap.size := fun k h => by
        rw [hpl] at h
        rcases h with h | rfl | rfl
        · exact hzN k h
        · exact (Array.getElem?_eq_some_iff.1 hk).1
        · exact (Array.getElem?_eq_some_iff.1 hl).1
      have hlt : w.heap.size + 1 < W.heap.size := (Array.getElem?_eq_some_iff.1 hl).1
      have hy := run_yield (P := P) (args := encs x) hl (by rw [hrec]; exact hps x)
      rw [hrec] at hy
      refine ⟨fn, _, assign, body, hy, roundIn_of_wpIn hfn (hassign _ (pl N) pre x W _ hplz hi hGx ?_)⟩
      clear hy
      intro a' Wa hkfa hia hax
      replace hl := (hkfa _ plL).trans hl
      replace hk := (hkfa _ plD).trans hk
      replace hlt : w.heap.size + 1 < Wa.heap.size := (Array.getElem?_eq_some_iff.1 hl).1
      replace hi := hia
      clear hia
      revert hkfa
      revert hplz
      revert hzN
      generalize W = Wb
      intro hzN hplz hkfa
      obtain ⟨W, rfl⟩ : ∃ W, W = Wa := ⟨_, rfl⟩
      have hplW : ∀ k, pl N k → k < W.heap.size := fun k h => by
        have h1 := hkfa k h
        have h2 := hplz k h
        rw [Array.getElem?_eq_getElem h2] at h1
        exact (Array.getElem?_eq_some_iff.1 h1).1
      refine ⟨_, run_beginRound hl (by rw [hrec]), ?_⟩
      have hl2 : (W.putObj (w.heap.size + 1) (.loop { rec .ready none with state := .busy })).heap[w.heap.size + 1]? = some (.loop { rec .ready none with state := .busy }) := World.putObj_heap_same hlt
      have hk2 : (W.putObj (w.heap.size + 1) (.loop { rec .ready none with state := .busy })).heap[w.heap.size]? = some (.deferred (some [])) := (World.putObj_heap_other (by omega)).trans hk
      have hp2 : ∀ o', Held N W (W.putObj (w.heap.size + 1) o') := fun o' k hk => World.putObj_heap_other (fun e => by subst e; exact h2 hk)
      refine wpIn_mono (hbody _ (pl N) pre x a' _ plL ⟨_, hl2, by rw [hrec]; exact plD, by rw [hrec]; rw [hrec] at hk2; exact hk2⟩ (fun k h => by simpa using hplW k h) (hI _ _ _ _ _ hi (keep_put _ plL) (fun _ h => .inl h)) (hAx pre x a' _ _ () _ _ hax (keep_put _ plL) (fun _ h => .inl h))) ?_
      have fin : ∀ (jump : Option Code) (W3 : World), Held (pl N) (W.putObj (w.heap.size + 1) (.loop { rec .ready none with state := .busy })) W3 →
          (Instr.endRound (w.heap.size + 1) jump).run P W3 = .ok (.bool jump.isNone) (W3.putObj (w.heap.size + 1) (.loop (rec (if jump.isNone then .ready else .done) jump))) ∧
          W3.heap[w.heap.size + 1]? = some (.loop { rec .ready none with state := .busy }) ∧
          (W3.putObj (w.heap.size + 1) (.loop (rec (if jump.isNone then .ready else .done) jump))).heap[w.heap.size + 1]? = some (.loop (rec (if jump.isNone then .ready else .done) jump)) ∧
          (W3.putObj (w.heap.size + 1) (.loop (rec (if jump.isNone then .ready else .done) jump))).heap[w.heap.size]? = some (.deferred (some [])) ∧
          Held N Wb (W3.putObj (w.heap.size + 1) (.loop (rec (if jump.isNone then .ready else .done) jump))) := fun jump W3 hk3 => by
        have hl3 := (hk3 _ plL).trans hl2
        have := run_endRound (P := P) jump hl3
        rw [hrec] at this ⊢
        refine ⟨this, by rw [hrec] at hl3; exact hl3, World.putObj_heap_same (Array.getElem?_eq_some_iff.1 hl3).1, (World.putObj_heap_other (by omega)).trans ((hk3 _ plD).trans hk2), ?_⟩
        refine (hkfa.mono (fun k h => plN h)).trans (((hp2 _).trans (hk3.mono (fun k h => plN h))).trans fun k hk => World.putObj_heap_other (fun e => by subst e; exact h2 hk))
      rintro e a3 W3 hp
      cases e with
      | normal =>
        obtain ⟨hk3, hi3⟩ := hp
        obtain ⟨hr, hl3, hl4, hk4, hh⟩ := fin none W3 hk3
        exact ⟨_, _, hr, .inl ⟨rfl, ⟨h1, h2, fun k h => by
          have h4 := hh k h
          rw [Array.getElem?_eq_getElem (hzN k h)] at h4
          exact (Array.getElem?_eq_some_iff.1 h4).1, hI _ _ _ _ _ hi3 (keep_put _ plL) (fun _ h => .inl h), hl4, hk4⟩, hh⟩⟩
      | ret =>
        obtain ⟨hk3, hi3⟩ := hp
        obtain ⟨hr, hl3, hl4, hk4, hh⟩ := fin (some .ret) W3 hk3
        exact ⟨_, _, hr, .inr ⟨rfl, ⟨.ret, h1, h2, hIx _ _ _ _ _ _ hi3 (keep_put _ plL) (fun _ h => .inl h), hl4, hk4⟩, hh⟩⟩
      | exit id =>
        obtain ⟨hk3, hi3⟩ := hp
        obtain ⟨hr, hl3, hl4, hk4, hh⟩ := fin (some (.exit id)) W3 hk3
        exact ⟨_, _, hr, .inr ⟨rfl, ⟨.exit id, h1, h2, hIx _ _ _ _ _ _ hi3 (keep_put _ plL) (fun _ h => .inl h), hl4, hk4⟩, hh⟩⟩
      | goto t =>
        obtain ⟨hk3, hi3⟩ := hp
        obtain ⟨hr, hl3, hl4, hk4, hh⟩ := fin (some (.goto t)) W3 hk3
        exact ⟨_, _, hr, .inr ⟨rfl, ⟨.goto t, h1, h2, hIx _ _ _ _ _ _ hi3 (keep_put _ plL) (fun _ h => .inl h), hl4, hk4⟩, hh⟩⟩
      | panic ch => exact hp.elim
      | outgrown => exact hp.elim
    · rintro e W2 ⟨⟨v, rfl⟩, (⟨xs, hS, h1, h2, -, hi, hl, hk⟩ | ⟨pre, hSp, c, h1, h2, hi, hl, hk⟩)⟩
      · exact ⟨none, _, by have := run_endLoop (P := P) hl (by rw [hrec]; simp); rw [hrec] at this; exact this, hdone _ (pl N0) xs _ (Nat.le_refl _) plD (fun k h => plN h) hS (hI _ _ _ _ _ hi (keep_put _ plL) (fun _ h => .inl h)) ((World.putObj_heap_other (by omega)).trans hk)⟩
      · exact ⟨some c, _, by have := run_endLoop (P := P) hl (by rw [hrec]; simp); rw [hrec] at this; exact this, hstop _ (pl N0) c pre _ (Nat.le_refl _) plD (fun k h => plN h) hSp (hIx c _ _ _ _ _ hi (keep_put _ plL) (fun _ h => .inl h)) ((World.putObj_heap_other (by omega)).trans hk)⟩
theorem RoundIn.inR {F : Fence} {n : Nat} {P : Program} {l l' : Nat} {f : FuncId} {tmps : Array Value} {assign body : Code} {w : World} {R : Ending → World → Prop} (h : RoundIn F n P l f tmps assign body w R) : RoundIn (F.inRound l') n P l f tmps assign body w R := h
theorem YieldAt.any {m m' : Nat} {P : Program} {l : Nat} {args : Array Value} {W : World} {R : Ending → World → Prop} (h : YieldAt Fence.wide m P l args W R) : YieldAt Fence.wide m' P l args W R := by
  obtain ⟨fn, tmps, assign, body, h1, h2⟩ := h
  exact ⟨fn, tmps, assign, body, h1, h2.1, fun c cs _ => h2.2 c cs (room_wide _)⟩
end Go.Proofs.YtamfjgioajmnpaaGreatDoor
namespace Go.Proofs.YtamfjgioajmnpaaGreatDoor
open Go.RowKit Go.Shelf
set_option linter.unusedVariables false
set_option linter.unusedSimpArgs false
attribute [local go_sem] Oper.semAt_some

theorem enters_all : ∀ args w, (callFunc 258 args).run Tryz.prog w = .ok (.enter 258 args) w := enters_of Tryz.func258 (by kernel_rfl) rfl
/-- a space of which something holds, and the box with its place -/
def SeeS (p m b : Nat) (Q : Spc → Prop) (W : World) : Prop := ∃ g X, SAt W p g X ∧ X.Ok ∧ X.L.length = m ∧ Q X ∧ W.cell? ⟨b, 0, none⟩ = some (.pointer (some ⟨p, 0, none⟩))
/-- a place of All: its number and its cell -/
def encPC (x : Nat × Cl) : Array Value := #[.int .i64 (x.1 : Int), x.2.val]
theorem Spc.at_nat {X : Spc} (ok : X.Ok) {j : Nat} (hj : j < X.L.length) : X.L[j]? = some (X.at_ (j : Int)) := by
  have h := ok.len
  have hw : X.wrap (j : Int) = j := by
    show ((j : Int) % (X.r * X.c)).toNat = j
    rw [Int.emod_eq_of_lt (by omega) (by omega)]; simp
  unfold Spc.at_
  rw [hw, List.getD, List.getElem?_eq_getElem hj]; rfl
/-- what a space's places are at a time -/
def AllG (p m : Nat) (pre : List (Nat × Cl)) (x : Nat × Cl) (W : World) : Prop := x.1 = pre.length ∧ x.1 < m ∧ ∀ g X, SAt W p g X → X.Ok → X.L.length = m → X.L[x.1]? = some x.2
theorem SAt.cells_eq {w : World} {p g g' : Nat} {X X' : Spc} (h : SAt w p g X) (h' : SAt w p g' X') : X.L.length = X'.L.length ∧ g = g' ∧ ∀ i : Nat, X.L[i]? = X'.L[i]? := by
  obtain ⟨cap, _, _, h4⟩ := h.h4
  obtain ⟨cap', _, _, h4'⟩ := h'.h4
  rw [h4] at h4'
  injection h4' with h4'
  injection h4' with e1 e2 e3
  injection e1 with e1
  injection e1 with e1
  subst e1
  refine ⟨e2, rfl, fun i => ?_⟩
  rcases Nat.lt_or_ge i X.L.length with hlt | hge
  · obtain ⟨c, hc⟩ : ∃ c, X.L[i]? = some c := ⟨_, List.getElem?_eq_getElem hlt⟩
    obtain ⟨d, hd⟩ : ∃ d, X'.L[i]? = some d := ⟨_, List.getElem?_eq_getElem (by omega)⟩
    obtain ⟨c0, c1, c2, c3, c4, c5⟩ := h.cells.2.2 i c hc
    obtain ⟨d0, d1, d2, d3, d4, d5⟩ := h'.cells.2.2 i d hd
    rw [c0] at d0; rw [c1] at d1; rw [c2] at d2; rw [c3] at d3; rw [c4] at d4; rw [c5] at d5
    injection d0 with d0; injection d0 with _ d0
    injection d1 with d1; injection d1 with d1
    injection d2 with d2; injection d2 with _ d2
    injection d3 with d3; injection d3 with _ d3
    injection d4 with d4; injection d4 with _ d4
    injection d5 with d5; injection d5 with _ d5
    rw [hc, hd, Cl.ext_ d0 d1 d2 d3 d4 d5]
  · rw [List.getElem?_eq_none hge, List.getElem?_eq_none (by omega)]

set_option maxRecDepth 100000 in
set_option maxHeartbeats 3200000 in
theorem all_it {p m b : Nat} {Q : Spc → Prop} : ItN Tryz.prog 258 #[.pointer (some ⟨b, 0, none⟩)] encPC (fun _ => False) (fun _ => True) (SeeS p m b Q) (AllG p m) (fun xs => xs.length = m) (fun pre => pre.length ≤ m) := by
  intro k l J Jx N0 W hJ hJx hV hT hNz hV0 hY h0
  refine callsIn_of_wp Tryz.func258 rfl trivial ?_ rfl
  simp only [Tryz.ntmps258, List.size_toArray, List.length_cons, List.length_nil, Nat.reduceAdd, Nat.reduceSub, Array.replicate_succ, Array.replicate_zero, List.push_toArray, List.append_toArray, List.nil_append, List.cons_append]
  obtain ⟨g, X, hs, ok, hm, hq, hb⟩ := hV _ _ _ h0
  have zb := cell_lt hb
  have hbg := ok.big
  have hsm := ok.small
  have HV := Lib.hid ok.valid
  have HMC := Lib.hid (show X.r * X.c = (m : Int) by rw [← hm]; exact ok.len.symm)
  have HSZ := Lib.hid (ssize_is hs)
  have HY := Lib.hid hY
  have HJ := Lib.hid hJ
  have HJx := Lib.hid hJx
  have HVV := Lib.hid hV
  have H0 := Lib.hid h0
  rw [hm] at hbg hsm
  clear hY hJ hJx hV h0 hT hV0 hNz hs ok hm hq
  gi_wp2_with (first
    | (refine ⟨trivial, (fun h => by simp [Fence.wide] at h), ?_⟩; gi_at_call 63; (with_reducible refine (callsIn_wide.2 HSZ.out).mono ?_); rintro e w2 ⟨rfl, hu2⟩)
    | (refine ⟨trivial, (fun h => by simp [Fence.wide] at h), ?_⟩; gi_at_call 62; (with_reducible refine (callsIn_wide.2 (cells_good _ _ _ HV.out)).mono ?_); rw [HMC.out]; rintro e w3 ⟨rfl, hu3⟩))
  have HJ3 := Lib.hid (HJ.out.up (HJ.out.up H0.out hu2) hu3)
  clear hu2 hu3 hb
  gi_loopw [3, 7] (fun _ i wr => ∃ pre : List (Nat × Cl), pre.length ≤ m ∧ i = .int .i64 (pre.length : Int) ∧ J N0 pre wr) (fun _ i _ => m - (intOf i).toNat)
  case atStart => exact ⟨[], by simp, rfl, HJ3.out⟩
  case round =>
    obtain ⟨pre, hj, rfl, hJs⟩ := hrel
    obtain ⟨g', Y, hs, ok, hm, hq, hb⟩ := HVV.out _ _ _ hJs
    obtain ⟨j, hjl⟩ : ∃ j, pre.length = j := ⟨_, rfl⟩
    have HJL := Lib.hid hjl
    rw [hjl] at hj ⊢
    have zb := cell_lt hb
    have HJS := Lib.hid hJs
    by_cases hlt : j < m
    · have hc := Spc.at_nat ok (j := j) (by omega)
      obtain ⟨c, hcc⟩ : ∃ c, Y.at_ (j : Int) = c := ⟨_, rfl⟩
      have HAT := Lib.hid (sat_is (j : Int) hs ok)
      rw [hcc] at hc HAT
      have hG : AllG p m pre (j, c) wr := ⟨hjl.symm, hlt, fun g2 X2 h2 _ _ => by rw [← (hs.cells_eq h2).2.2 j]; exact hc⟩
      have HG := Lib.hid hG
      have hjm : (j : Int) < (m : Int) := by omega
      have HLN := Lib.hid (show (pre ++ [(j, c)]).length = j + 1 by simp [HJL.out])
      clear hs ok hm hq hc hcc hG hJs hjl
      unfold Cl.val at HAT
      gi_wp2_with (first
        | (refine ⟨trivial, (fun h => by simp [Fence.wide] at h), ?_⟩; gi_at_call 42; (with_reducible refine (callsIn_wide.2 HAT.out).mono ?_); rintro e w9 ⟨rfl, hu9⟩; obtain ⟨fn, tmps, assign, body, hy, hR⟩ := HY.out N0 pre (j, c) w9 (HJ.out.up HJS.out hu9) ⟨HG.out.1, HG.out.2.1, fun g2 X2 h2 ok2 hm2 => by
            obtain ⟨g3, Z, h3, ok3, hm3, _, _⟩ := HVV.out _ _ _ HJS.out
            rw [← ((h3.up hu9).cells_eq h2).2.2]
            exact HG.out.2.2 g3 Z h3 ok3 hm3⟩; have HRR := Lib.hid hR; clear hR; simp only [encPC, Cl.val] at hy))
      refine ⟨fun h => by simp [Fence.wide] at h, ?_⟩
      refine HRR.out.mono ?_
      rintro e W' (⟨rfl, hJ', -⟩ | ⟨rfl, hJ', -⟩)
      · have HJ' := Lib.hid hJ'
        clear hJ'
        gi_wp2
        go_roundw
        case rel => exact ⟨pre ++ [(j, c)], by rw [HLN.out]; omega, by rw [HLN.out]; go_num, HJ'.out⟩
        case measure => simp [intOf]; omega
      · have HX := Lib.hid hJ'
        clear hJ'
        gi_wp2
        refine bodyPost_ret (results_none rfl _ _ _) rfl ?_
        exact ⟨⟨_, rfl⟩, .inr ⟨_, by rw [HLN.out]; omega, HX.out⟩⟩
    · obtain rfl : j = m := by omega
      clear hs ok hm hq hJs hjl
      gi_wp2
      go_end0
      exact ⟨⟨_, rfl⟩, .inl ⟨_, HJL.out, HJS.out⟩⟩
end Go.Proofs.YtamfjgioajmnpaaGreatDoor
