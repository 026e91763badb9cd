/-
Boxes of a function that hold still beside an iterator's own blocks. No condition.
A range over a function within a round of another: as range_n, with one block of its own. No condition.
-/
import Derived.Test.YtamfjgioajmnpaaGreatDoorJa9
import Derived.Stop.RegionWithIn
import Derived.Shelf.Abstract
import Derived.RangeFuncNested
namespace Go.Proofs.YtamfjgioajmnpaaGreatDoor
open Go.RowKit Go.Shelf
set_option linter.unusedVariables false
set_option linter.unusedSimpArgs false

/-- the box b holds v, and is no other's -/
structure BoxAt (N : Nat → Prop) (W : World) (b : Nat) (v : Value) : Prop where
  c : W.cell? ⟨b, 0, none⟩ = some v
  f : W.frozen? ⟨b, 0, none⟩ = false
  n : ¬ N b
theorem BoxAt.lt {N : Nat → Prop} {W : World} {b : Nat} {v : Value} (h : BoxAt N W b v) : b < W.heap.size := cell_lt h.c
theorem BoxAt.keep {N N' : Nat → Prop} {W W' : World} {b : Nat} {v : Value} (h : BoxAt N W b v) (hk : Keep N W W') (hn : ∀ k, N' k → N k ∨ (W.heap.size ≤ k ∧ k < W'.heap.size)) : BoxAt N' W' b v := by
  have z := h.lt
  refine ⟨((hk.at_ b z h.n).1 0).trans h.c, ((hk.at_ b z h.n).2 0).trans h.f, fun e => ?_⟩
  rcases hn _ e with e | e
  · exact h.n e
  · omega
theorem BoxAt.up {N : Nat → Prop} {W W' : World} {b : Nat} {v : Value} (h : BoxAt N W b v) (hu : Up W W') : BoxAt N W' b v := h.keep (Keep.of_up hu) (fun _ h => .inl h)
end Go.Proofs.YtamfjgioajmnpaaGreatDoor
namespace Go.Proofs.YtamfjgioajmnpaaGreatDoor
open Go.RowKit
set_option linter.unusedVariables false
set_option linter.unusedSimpArgs false

theorem range_in {α : Type} {P : Program} {n : Nat} {g : Operand} {ps : Array Tmp} {assign body : Code} {Q : Exit → Act → World → Prop} {a : Act} {w : World}
    {l₀ : Nat} {r₀ : Loop} (hl₀ : w.heap[l₀]? = some (.loop r₀)) {gf : Nat} {lb : Array Value} (hg : a.eval g = .func (.func gf) #[] lb) (eg : ∀ args w, (callFunc gf args).run P w = .ok (.enter gf args) w)
    {encs : α → Array Value} {T : Nat → Prop} {V0 V : World → Prop} {G : List α → α → World → Prop} {S Sp : List α → Prop} (hseq : ItN P gf lb encs T V0 V G S Sp) (hps : ∀ x, (encs x).size = ps.size)
    (N0 : Nat → Prop) (hN0 : ∀ k, N0 k → k < w.heap.size) (hT : ∀ k, T k → N0 k) (hV0 : ∀ W, Up w W → V0 W)
    (I : (Nat → Prop) → List α → World → Prop) (Ix : Code → (Nat → Prop) → List α → World → Prop) (hI : Own2 I) (hIx : ∀ c, Own2 (Ix c)) (hV : ∀ N pre W, I N pre W → V W) (h0 : I N0 [] w)
    (Ax : List α → α → Act → (Nat → Prop) → World → Prop) (hAx : ∀ pre x a', Own2 (fun N (_ : Unit) W => Ax pre x a' N W))
    (hassign : ∀ (l : Nat) (N : Nat → Prop) (pre : List α) (x : α) (W : World) (K : Act → World → Prop), (∀ k, N k → k < W.heap.size) → I N pre W → G pre x W → (∀ a' W', Held N W W' → I N pre W' → Ax pre x a' N W' → K a' W') →
      assign.wpIn (Fence.wide.inRound l) (n - 1 - 1) P (Exit.then K (fun _ _ _ => False)) { tmps := (ps.zip (encs x)).foldl (fun t (p, v) => t.setIfInBounds p v) a.tmps, defers := [] } W)
    (hbody : ∀ (l : Nat) (N : Nat → Prop) (pre : List α) (x : α) (a' : Act) (W : World), N l → (∃ r, W.heap[l]? = some (.loop r)) → (∀ k, N k → k < W.heap.size) → I N pre W → Ax pre x a' N W →
      body.wpIn (Fence.wide.inRound l) (n - 1 - 1) P (itPostN N I Ix (pre ++ [x]) W) a' W)
    (hdone : ∀ (N : Nat → Prop) (xs : List α) (W : World), (∀ k, N0 k → N k) → S xs → I N xs W → Q .normal a W)
    (hstop : ∀ (N : Nat → Prop) (c : Code) (pre : List α) (W : World), (∀ k, N0 k → N k) → Sp pre → Ix c N pre W → c.wpIn (Fence.wide.inRound l₀) n P Q a W) :
    (Code.rangeFunc g ps assign body).wpIn (Fence.wide.inRound l₀) n P Q a w := by
  refine wpIn_rangeFunc ?_
  intro fn hfn
  rw [Fence.inRound_round]
  obtain ⟨rec, hrec⟩ : ∃ rec : LoopState → Option Code → Loop, rec = fun st pe => { state := st, pending := pe, fn, tmps := a.tmps, params := ps, assign, body, defers := r₀.defers } := ⟨_, rfl⟩
  obtain ⟨W1, hW1⟩ : ∃ W1, w.alloc (.loop (rec .ready none)) = W1 := ⟨_, rfl⟩
  have hz1 : W1.heap.size = w.heap.size + 1 := by rw [← hW1]; simp
  have hL1 : W1.heap[w.heap.size]? = some (.loop (rec .ready none)) := by
    rw [← hW1]; exact World.alloc_heap_new w _
  have hb1 : Up w W1 := by
    rw [← hW1]; exact (Up.refl w).alloc _
  obtain ⟨pl, hpl⟩ : ∃ pl : (Nat → Prop) → Nat → Prop, pl = fun N k => N k ∨ k = w.heap.size := ⟨_, rfl⟩
  have plN : ∀ {N : Nat → Prop} {k}, N k → pl N k := fun h => by rw [hpl]; exact .inl h
  have plL : ∀ {N : Nat → Prop}, pl N w.heap.size := by rw [hpl]; exact .inr rfl
  have hI1 : I (pl N0) [] W1 := hI _ _ _ _ _ h0 (Keep.of_up hb1) (fun k hk => by rw [hpl] at hk; rcases hk with h | h; exact .inl h; exact .inr (by omega))
  refine ⟨w.heap.size, [], W1, { target := .fn (.func gf) lb, args := #[.func (.yield w.heap.size) #[] #[]] }, W1, gf,
    #[.func (.yield w.heap.size) #[] #[]] ++ lb, W1, ?_, ?_, ?_, ?_, fun h => by simp [Fence.wide] at h, ?_⟩
  · rw [← hW1, hrec]; exact run_enterLoop_inner hl₀ _ _ _ _ _
  · simp only [resolve, hg]
    simp [go_sem]
  · intro f' hf'; trivial
  · simp [invoke, go_sem, eg]
  · have step : ∀ {N N' : Nat → Prop} {A A' : World} {o : Obj}, Keep N A A' → (∀ k, N' k → N k ∨ (A.heap.size ≤ k ∧ k < A'.heap.size)) → ¬ N w.heap.size → A.heap[w.heap.size]? = some o →
        ¬ N' w.heap.size ∧ A'.heap[w.heap.size]? = some o ∧ (∀ k, pl N' k → pl N k ∨ (A.heap.size ≤ k ∧ k < A'.heap.size)) ∧ Keep (pl N) A A' := fun hk hn h1 hl => by
      have l1 := (Array.getElem?_eq_some_iff.1 hl).1
      refine ⟨fun h => ?_, (hk.block _ l1 h1).trans hl, fun k h => ?_, hk.mono fun k h => plN h⟩
      · rcases hn _ h with h | h
        · exact h1 h
        · omega
      · rw [hpl] at h
        rcases h with h | rfl
        · rcases hn _ h with h | h
          · exact .inl (plN h)
          · exact .inr h
        · exact .inl plL
    refine (CallsIn.inRound l₀ (hseq (n - 1) w.heap.size
      (fun N pre W => ¬ N w.heap.size ∧ (∀ k, N k → k < W.heap.size) ∧ I (pl N) pre W ∧ W.heap[w.heap.size]? = some (.loop (rec .ready none)))
      (fun N pre W => ∃ c, ¬ N w.heap.size ∧ Ix c (pl N) pre W ∧ W.heap[w.heap.size]? = some (.loop (rec .done (some c))))
      N0 W1
      ?own ?ownx
      (fun N pre W h => hV _ _ _ h.2.2.1) hT (fun k hk => by have := hN0 k hk; omega) (hV0 _ hb1)
      ?_ ⟨fun h => by have := hN0 _ h; omega, fun k hk => by have := hN0 k hk; omega, hI1, hL1⟩)).mono ?_
    case own =>
      rintro N N' s A A' ⟨h1, hz, hi, hl⟩ hk hn
      obtain ⟨g1, g3, g5, g6⟩ := step hk hn h1 hl
      exact ⟨g1, fun k h => by
        rcases hn k h with h | h
        · have := hz k h; have := hk.size; omega
        · exact h.2, hI _ _ _ _ _ hi g6 g5, g3⟩
    case ownx =>
      rintro N N' s A A' ⟨c, h1, hi, hl⟩ hk hn
      obtain ⟨g1, g3, g5, g6⟩ := step hk hn h1 hl
      exact ⟨c, g1, hIx c _ _ _ _ _ hi g6 g5, g3⟩
    · rintro N pre x W ⟨h1, hzN, hi, hl⟩ hGx
      have hplz : ∀ k, pl N k → k < W.heap.size := fun k h => by
        rw [hpl] at h
        rcases h with h | rfl
        · exact hzN k h
        · exact (Array.getElem?_eq_some_iff.1 hl).1
      have hlt : w.heap.size < W.heap.size := (Array.getElem?_eq_some_iff.1 hl).1
      have hy := run_yield (P := P) (args := encs x) hl (by rw [hrec]; exact hps x)
      rw [hrec] at hy
      refine ⟨fn, _, assign, body, hy, roundIn_of_wpIn hfn (hassign _ (pl N) pre x W _ hplz hi hGx ?_)⟩
      clear hy
      intro a' Wa hkfa hia hax
      replace hl := (hkfa _ plL).trans hl
      replace hlt : w.heap.size < Wa.heap.size := (Array.getElem?_eq_some_iff.1 hl).1
      replace hi := hia
      clear hia
      revert hkfa
      revert hplz
      revert hzN
      generalize W = Wb
      intro hzN hplz hkfa
      obtain ⟨W, rfl⟩ : ∃ W, W = Wa := ⟨_, rfl⟩
      have hplW : ∀ k, pl N k → k < W.heap.size := fun k h => by
        have h1 := hkfa k h
        have h2 := hplz k h
        rw [Array.getElem?_eq_getElem h2] at h1
        exact (Array.getElem?_eq_some_iff.1 h1).1
      refine ⟨_, run_beginRound hl (by rw [hrec]), ?_⟩
      have hl2 : (W.putObj w.heap.size (.loop { rec .ready none with state := .busy })).heap[w.heap.size]? = some (.loop { rec .ready none with state := .busy }) := World.putObj_heap_same hlt
      have hp2 : ∀ o', Held N W (W.putObj w.heap.size o') := fun o' k hk => World.putObj_heap_other (fun e => by subst e; exact h1 hk)
      refine wpIn_mono (hbody _ (pl N) pre x a' _ plL ⟨_, hl2⟩ (fun k h => by simpa using hplW k h) (hI _ _ _ _ _ hi (keep_put _ plL) (fun _ h => .inl h)) (hAx pre x a' _ _ () _ _ hax (keep_put _ plL) (fun _ h => .inl h))) ?_
      have fin : ∀ (jump : Option Code) (W3 : World), Held (pl N) (W.putObj w.heap.size (.loop { rec .ready none with state := .busy })) W3 →
          (Instr.endRound w.heap.size jump).run P W3 = .ok (.bool jump.isNone) (W3.putObj w.heap.size (.loop (rec (if jump.isNone then .ready else .done) jump))) ∧
          (W3.putObj w.heap.size (.loop (rec (if jump.isNone then .ready else .done) jump))).heap[w.heap.size]? = some (.loop (rec (if jump.isNone then .ready else .done) jump)) ∧
          Held N Wb (W3.putObj w.heap.size (.loop (rec (if jump.isNone then .ready else .done) jump))) := fun jump W3 hk3 => by
        have hl3 := (hk3 _ plL).trans hl2
        have := run_endRound (P := P) jump hl3
        rw [hrec] at this ⊢
        refine ⟨this, World.putObj_heap_same (Array.getElem?_eq_some_iff.1 hl3).1, ?_⟩
        refine (hkfa.mono (fun k h => plN h)).trans (((hp2 _).trans (hk3.mono (fun k h => plN h))).trans fun k hk => World.putObj_heap_other (fun e => by subst e; exact h1 hk))
      rintro e a3 W3 hp
      cases e with
      | normal =>
        obtain ⟨hk3, hi3⟩ := hp
        obtain ⟨hr, hl4, hh⟩ := fin none W3 hk3
        exact ⟨_, _, hr, .inl ⟨rfl, ⟨h1, fun k h => by
          have h4 := hh k h
          rw [Array.getElem?_eq_getElem (hzN k h)] at h4
          exact (Array.getElem?_eq_some_iff.1 h4).1, hI _ _ _ _ _ hi3 (keep_put _ plL) (fun _ h => .inl h), hl4⟩, hh⟩⟩
      | ret =>
        obtain ⟨hk3, hi3⟩ := hp
        obtain ⟨hr, hl4, hh⟩ := fin (some .ret) W3 hk3
        exact ⟨_, _, hr, .inr ⟨rfl, ⟨.ret, h1, hIx _ _ _ _ _ _ hi3 (keep_put _ plL) (fun _ h => .inl h), hl4⟩, hh⟩⟩
      | exit id =>
        obtain ⟨hk3, hi3⟩ := hp
        obtain ⟨hr, hl4, hh⟩ := fin (some (.exit id)) W3 hk3
        exact ⟨_, _, hr, .inr ⟨rfl, ⟨.exit id, h1, hIx _ _ _ _ _ _ hi3 (keep_put _ plL) (fun _ h => .inl h), hl4⟩, hh⟩⟩
      | goto t =>
        obtain ⟨hk3, hi3⟩ := hp
        obtain ⟨hr, hl4, hh⟩ := fin (some (.goto t)) W3 hk3
        exact ⟨_, _, hr, .inr ⟨rfl, ⟨.goto t, h1, hIx _ _ _ _ _ _ hi3 (keep_put _ plL) (fun _ h => .inl h), hl4⟩, hh⟩⟩
      | panic ch => exact hp.elim
      | outgrown => exact hp.elim
    · rintro e W2 ⟨⟨v, rfl⟩, (⟨xs, hS, h1, -, hi, hl⟩ | ⟨pre, hSp, c, h1, hi, hl⟩)⟩
      · exact ⟨none, _, by have := run_endLoop (P := P) hl (by rw [hrec]; simp); rw [hrec] at this; exact this, hdone (pl N0) xs _ (fun k h => plN h) hS (hI _ _ _ _ _ hi (keep_put _ plL) (fun _ h => .inl h))⟩
      · exact ⟨some c, _, by have := run_endLoop (P := P) hl (by rw [hrec]; simp); rw [hrec] at this; exact this, hstop (pl N0) c pre _ (fun k h => plN h) hSp (hIx c _ _ _ _ _ hi (keep_put _ plL) (fun _ h => .inl h))⟩
end Go.Proofs.YtamfjgioajmnpaaGreatDoor
