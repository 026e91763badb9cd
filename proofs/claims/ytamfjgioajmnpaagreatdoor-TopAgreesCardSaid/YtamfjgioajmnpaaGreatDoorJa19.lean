/-
A range over a function where iterator and round write what both own, and a round may return. No condition.
order.Parse as an iterator: its orders one by one, for whatever the session holds besides. Conditions: few bytes, that lie apart.
What slices.Collect over ints makes of an iterator (ItN). No condition.
-/
import Derived.Test.YtamfjgioajmnpaaGreatDoorJa18
import Derived.Shelf.Abstract
import Derived.Test.YtamfjgioajmnpaaGreatDoorJa8
import Derived.Test.YtamfjgioajmnpaaGreatDoorJa9
namespace Go.Proofs.YtamfjgioajmnpaaGreatDoor
open Go.RowKit
set_option linter.unusedVariables false
set_option linter.unusedSimpArgs false

/-- **what the iterator does**: at each yield J1 holds of blocks F1 that the round may write; behind it J2 -/
def ItX {σ α : Type} (P : Program) (g : Nat) (lb : Array Value) (encs : α → Array Value) (F0 : Nat → Prop) (J1 J2 Jx : σ → α → (Nat → Prop) → World → Prop) (Je : σ → (Nat → Prop) → World → Prop) (w : World) : Prop :=
  ∀ (n l : Nat) (ob : Obj) (W : World), Up w W → ¬ F0 l → l < W.heap.size → ob.isCells = false →
    (∀ s x F1 W1, Keep F0 W W1 → (∀ k, F1 k → Gr F0 W W1 k) → J1 s x F1 W1 → YieldAt Fence.wide (n - 1) P l (encs x) W1 fun e W' =>
      (e = .returned (.bool true) ∧ Keep F1 W1 W' ∧ ∃ F2, (∀ k, F2 k → Gr F1 W1 W' k) ∧ J2 s x F2 W') ∨
      (e = .returned (.bool false) ∧ Keep (fun k => F1 k ∨ k = l) W1 W' ∧ W'.heap[l]? = some ob ∧ ∃ F2, (∀ k, F2 k → Gr F1 W1 W' k) ∧ Jx s x F2 W')) →
    CallsIn Fence.wide n P g (#[.func (.yield l) #[] #[]] ++ lb) W fun e W' => (∃ v, e = .returned v) ∧
      ((Keep F0 W W' ∧ ∃ s F2, (∀ k, F2 k → Gr F0 W W' k) ∧ Je s F2 W') ∨
       (Keep (fun k => F0 k ∨ k = l) W W' ∧ W'.heap[l]? = some ob ∧ ∃ s x F2, (∀ k, F2 k → Gr F0 W W' k) ∧ Jx s x F2 W'))
def postX {σ α : Type} (J2 Jx : σ → α → (Nat → Prop) → World → Prop) (s : σ) (x : α) (F1 : Nat → Prop) (W1 : World) : Exit → Act → World → Prop
  | .normal, _, W' => Keep F1 W1 W' ∧ ∃ F2, (∀ k, F2 k → Gr F1 W1 W' k) ∧ J2 s x F2 W'
  | .ret, _, W' => Keep F1 W1 W' ∧ ∃ F2, (∀ k, F2 k → Gr F1 W1 W' k) ∧ Jx s x F2 W'
  | _, _, _ => False
theorem range_x {σ α : Type} {P : Program} {n : Nat} {g : Operand} {ps : Array Tmp} {assign body : Code} {Q : Exit → Act → World → Prop} {a : Act} {w : World}
    {gf : Nat} {lb : Array Value} (hg : a.eval g = .func (.func gf) #[] lb) (eg : ∀ args w, (callFunc gf args).run P w = .ok (.enter gf args) w)
    {encs : α → Array Value} {F0 : Nat → Prop} {J1 J2 Jx : σ → α → (Nat → Prop) → World → Prop} {Je : σ → (Nat → Prop) → World → Prop} (hseq : ItX P gf lb encs F0 J1 J2 Jx Je w) (hF : ∀ k, F0 k → k < w.heap.size) (hps : ∀ x, (encs x).size = ps.size)
    (h1 : LocF J1) (h2 : LocF J2) (hx : LocF Jx) (he : LocE Je)
    (Ax : σ → α → Act → World → Prop) (hAx : ∀ s x a', Still (Calm w.heap.size (fun _ => False)) (fun (_ : Unit) W => Ax s x a' W))
    (hassign : ∀ (l : Nat) (s : σ) (x : α) (F1 : Nat → Prop) (W1 : World) (K : Act → World → Prop), Keep F0 w W1 → (∀ k, F1 k → Gr F0 w W1 k) → J1 s x F1 W1 → (∀ a' W', Up W1 W' → Ax s x a' W' → K a' W') →
      assign.wpIn (Fence.wide.inRound l) (n - 1 - 1) P (Exit.then K (fun _ _ _ => False)) { tmps := (ps.zip (encs x)).foldl (fun t (p, v) => t.setIfInBounds p v) a.tmps, defers := [] } W1)
    (hbody : ∀ (l : Nat) (s : σ) (x : α) (F1 : Nat → Prop) (a' : Act) (W1 : World), Keep F0 w W1 → (∀ k, F1 k → Gr F0 w W1 k) → J1 s x F1 W1 → Ax s x a' W1 →
      body.wpIn (Fence.wide.inRound l) (n - 1 - 1) P (postX J2 Jx s x F1 W1) a' W1)
    (hdone : ∀ (D : Nat) (s : σ) (F2 : Nat → Prop) (W : World), w.heap.size ≤ D → Keep F0 w W → (∀ k, F2 k → Gr F0 w W k) → Je s F2 W → W.heap[D]? = some (.deferred (some [])) → Q .normal { a with defers := { target := .collected D, args := #[] } :: a.defers } W)
    (hstop : ∀ (D : Nat) (s : σ) (x : α) (F2 : Nat → Prop) (W : World), w.heap.size ≤ D → Keep F0 w W → (∀ k, F2 k → Gr F0 w W k) → Jx s x F2 W → W.heap[D]? = some (.deferred (some [])) → Code.ret.wpIn Fence.wide n P Q { a with defers := { target := .collected D, args := #[] } :: a.defers } W) :
    (Code.rangeFunc g ps assign body).wpIn Fence.wide n P Q a w := by
  refine wpIn_rangeFunc ?_
  intro fn hfn
  rw [Fence.wide_round]
  obtain ⟨rec, hrec⟩ : ∃ rec : LoopState → Option Code → Loop, rec = fun st pe => { state := st, pending := pe, fn, tmps := a.tmps, params := ps, assign, body, defers := w.heap.size } := ⟨_, rfl⟩
  obtain ⟨W0, hW0⟩ : ∃ W0, (w.alloc (.deferred (some []))).alloc (.loop (rec .ready none)) = W0 := ⟨_, rfl⟩
  have hz0 : W0.heap.size = w.heap.size + 2 := by rw [← hW0]; simp
  have hL0 : W0.heap[w.heap.size + 1]? = some (.loop (rec .ready none)) := by
    rw [← hW0]; have := World.alloc_heap_new (w.alloc (.deferred (some []))) (.loop (rec .ready none)); rwa [World.size_alloc] at this
  have hK0 : W0.heap[w.heap.size]? = some (.deferred (some [])) := by
    rw [← hW0]; exact (Below.heap_alloc _ _ _ (by simp)).trans (World.alloc_heap_new w _)
  have hb0 : Up w W0 := by
    rw [← hW0]; exact ((Up.refl w).alloc _).alloc _
  refine ⟨w.heap.size + 1, [{ target := .collected w.heap.size, args := #[] }], W0, { target := .fn (.func gf) lb, args := #[.func (.yield (w.heap.size + 1)) #[] #[]] }, W0, gf,
    #[.func (.yield (w.heap.size + 1)) #[] #[]] ++ lb, W0, ?_, ?_, ?_, ?_, fun h => by simp [Fence.wide] at h, ?_⟩
  · rw [← hW0, hrec]; exact run_enterLoop_outer _ _ _ _ _
  · simp only [resolve, hg]
    simp [go_sem]
  · intro f' hf'; trivial
  · simp [invoke, go_sem, eg]
  · -- what F0's holders leave of the loop's two blocks
    have step : ∀ {A B : World} {F : Nat → Prop} {o : Obj} {k : Nat}, Keep F A B → ¬ F k → A.heap[k]? = some o → B.heap[k]? = some o := fun hk hn ho => (hk.block _ (Array.getElem?_eq_some_iff.1 ho).1 hn).trans ho
    have nF : ∀ {A : World} {F : Nat → Prop}, (∀ k, F k → Gr F0 W0 A k) → ¬ F w.heap.size ∧ ¬ F (w.heap.size + 1) := fun {A F} h => by
      refine ⟨fun hk => ?_, fun hk => ?_⟩ <;>
      · rcases h _ hk with h | h
        · have := hF _ h; omega
        · omega
    have gr0 : ∀ {A : World} {F : Nat → Prop}, (∀ k, F k → Gr F0 W0 A k) → ∀ k, F k → Gr F0 w A k := fun h k hk => (h k hk).imp id (fun h => ⟨by omega, h.2⟩)
    have f0 : ¬ F0 w.heap.size ∧ ¬ F0 (w.heap.size + 1) := ⟨fun h => by have := hF _ h; omega, fun h => by have := hF _ h; omega⟩
    refine (hseq (n - 1) (w.heap.size + 1) (.loop (rec .done (some .ret))) W0 hb0 f0.2 (by omega) rfl ?_).mono ?_
    · rintro s x F1 W hkW hF1 hJ
      have hl := step hkW f0.2 hL0
      have hd := step hkW f0.1 hK0
      have hlt : w.heap.size + 1 < W.heap.size := (Array.getElem?_eq_some_iff.1 hl).1
      have n1 := nF hF1
      have hkw : Keep F0 w W := (Keep.of_up hb0).trans hkW
      have hy := run_yield (P := P) (args := encs x) hl (by rw [hrec]; exact hps x)
      rw [hrec] at hy
      refine ⟨fn, _, assign, body, hy, roundIn_of_wpIn hfn (hassign _ s x F1 W _ hkw (gr0 hF1) hJ ?_)⟩
      clear hy
      intro a' Wa hua hax
      replace hl := (hua.block _ (Array.getElem?_eq_some_iff.1 hl).1).trans hl
      replace hd := (hua.block _ (Array.getElem?_eq_some_iff.1 hd).1).trans hd
      have hlta : w.heap.size + 1 < Wa.heap.size := (Array.getElem?_eq_some_iff.1 hl).1
      have hF1a : ∀ k, F1 k → k < W.heap.size := fun k hk => by
        rcases hF1 k hk with h | h
        · have := hF _ h; omega
        · exact h.2
      have hJa := h1 _ _ _ _ _ hJ (Keep.of_up hua)
      refine ⟨_, run_beginRound hl (by rw [hrec]), ?_⟩
      obtain ⟨Wb, hWb⟩ : ∃ Wb, Wa.putObj (w.heap.size + 1) (.loop { rec .ready none with state := .busy }) = Wb := ⟨_, rfl⟩
      have hWb' : Wa.putObj (w.heap.size + 1) (.loop { rec .ready none with state := .busy }) = Wb := hWb
      have hl2 : Wb.heap[w.heap.size + 1]? = some (.loop { rec .ready none with state := .busy }) := by rw [← hWb]; exact World.putObj_heap_same hlta
      have hd2 : Wb.heap[w.heap.size]? = some (.deferred (some [])) := by rw [← hWb]; exact (World.putObj_heap_other (by omega)).trans hd
      have hzb : Wb.heap.size = Wa.heap.size := by rw [← hWb]; simp
      have hob : ∀ k, k ≠ w.heap.size + 1 → Wb.heap[k]? = Wa.heap[k]? := fun k hk => by rw [← hWb]; exact World.putObj_heap_other hk
      have hJb : J1 s x F1 Wb := by rw [← hWb]; exact h1 _ _ _ _ _ hJa (keep_put1 _ n1.2 hl)
      have hAb : Ax s x a' Wb := by rw [← hWb]; exact hAx s x a' () _ _ hax (Calm.putObj _ (by omega) hl rfl)
      have hkb : Keep F0 w Wb := by
        have hka : Keep F0 w Wa := hkw.up hua
        exact ⟨by rw [← hWb]; exact hka.os, by rw [← hWb]; exact hka.tape, by rw [← hWb]; exact hka.output, by have := hka.size; omega, fun k hk hn => (hob k (by omega)).trans (hka.block k hk hn)⟩
      have hgb : ∀ k, F1 k → Gr F0 w Wb k := fun k hk => (gr0 hF1 k hk).imp id (fun h => ⟨h.1, by have := h.2; have := hua.size; omega⟩)
      rw [hWb']
      refine wpIn_mono (hbody _ s x F1 a' Wb hkb hgb hJb hAb) ?_
      rintro e a3 W3 hp
      cases e with
      | normal =>
        obtain ⟨hk3, F2, hF2, hJ2⟩ := hp
        have hl3 := step hk3 n1.2 hl2
        have hd3 := step hk3 n1.1 hd2
        have hlt3 : w.heap.size + 1 < W3.heap.size := (Array.getElem?_eq_some_iff.1 hl3).1
        have hr := run_endRound (P := P) none hl3
        rw [hrec] at hr
        refine ⟨_, _, hr, .inl ⟨rfl, ?_, F2, ?_, ?_⟩⟩
        · have z3 := hk3.size
          have zua := hua.size
          refine ⟨hk3.os.trans (by rw [← hWb]; exact hua.os), hk3.tape.trans (by rw [← hWb]; exact hua.tape), hk3.output.trans (by rw [← hWb]; exact hua.output), by simp; omega, fun k hk hn => ?_⟩
          by_cases hkl : k = w.heap.size + 1
          · subst hkl
            have := (World.putObj_heap_same (o := .loop (rec .ready none)) hlt3)
            rw [hrec] at this hl
            exact this.trans (hl.symm.trans (hua.block _ hlt))
          · exact (World.putObj_heap_other hkl).trans ((hk3.block k (by omega) hn).trans ((hob k hkl).trans (hua.block k hk)))
        · intro k hk
          refine (hF2 k hk).imp id (fun h => ⟨by have := h.1; have := hua.size; omega, by simp; exact h.2⟩)
        · refine h2 _ _ _ _ _ hJ2 (keep_put1 _ (fun hk => ?_) hl3)
          rcases hF2 _ hk with h | h
          · exact n1.2 h
          · omega
      | ret =>
        obtain ⟨hk3, F2, hF2, hJ2⟩ := hp
        have hl3 := step hk3 n1.2 hl2
        have hd3 := step hk3 n1.1 hd2
        have hlt3 : w.heap.size + 1 < W3.heap.size := (Array.getElem?_eq_some_iff.1 hl3).1
        have hr := run_endRound (P := P) (some .ret) hl3
        rw [hrec] at hr
        refine ⟨_, _, hr, .inr ⟨rfl, ?_, ?_, F2, ?_, ?_⟩⟩
        · have z3 := hk3.size
          have zua := hua.size
          refine ⟨hk3.os.trans (by rw [← hWb]; exact hua.os), hk3.tape.trans (by rw [← hWb]; exact hua.tape), hk3.output.trans (by rw [← hWb]; exact hua.output), by simp; omega, fun k hk hn => ?_⟩
          have hkl : k ≠ w.heap.size + 1 := fun e => hn (.inr e)
          exact (World.putObj_heap_other hkl).trans ((hk3.block k (by omega) (fun e => hn (.inl e))).trans ((hob k hkl).trans (hua.block k hk)))
        · rw [hrec]
          exact World.putObj_heap_same hlt3
        · intro k hk
          refine (hF2 k hk).imp id (fun h => ⟨by have := h.1; have := hua.size; omega, by simp; exact h.2⟩)
        · refine hx _ _ _ _ _ hJ2 (keep_put1 _ (fun hk => ?_) hl3)
          rcases hF2 _ hk with h | h
          · exact n1.2 h
          · omega
      | exit id => exact hp.elim
      | goto t => exact hp.elim
      | panic ch => exact hp.elim
      | outgrown => exact hp.elim
    · rintro e W2 ⟨⟨v, rfl⟩, ⟨hk2, s, F2, hF2, hJe⟩ | ⟨hk2, hl, s, x, F2, hF2, hJx⟩⟩
      · have hl := step hk2 f0.2 hL0
        have hd := step hk2 f0.1 hK0
        have hlt : w.heap.size + 1 < W2.heap.size := (Array.getElem?_eq_some_iff.1 hl).1
        have n2 := nF hF2
        have hkw : Keep F0 w W2 := (Keep.of_up hb0).trans hk2
        refine ⟨none, _, by have := run_endLoop (P := P) hl (by rw [hrec]; simp); rw [hrec] at this; exact this, hdone _ s F2 _ (Nat.le_refl _) ?_ ?_ ?_ ((World.putObj_heap_other (by omega)).trans hd)⟩
        · exact ⟨hkw.os, hkw.tape, hkw.output, by simp; exact hkw.size, fun k hk hn => (World.putObj_heap_other (by omega)).trans (hkw.block k hk hn)⟩
        · intro k hk
          exact (gr0 hF2 k hk).imp id (fun h => ⟨h.1, by simp; exact h.2⟩)
        · exact he _ _ _ _ hJe (keep_put1 _ n2.2 hl)
      · have hd := step hk2 (fun e => e.elim f0.1 (fun e => by omega)) hK0
        have hlt : w.heap.size + 1 < W2.heap.size := (Array.getElem?_eq_some_iff.1 hl).1
        have n2 := nF hF2
        refine ⟨some .ret, _, by have := run_endLoop (P := P) hl (by rw [hrec]; simp); rw [hrec] at this; exact this, hstop _ s x F2 _ (Nat.le_refl _) ?_ ?_ ?_ ((World.putObj_heap_other (by omega)).trans hd)⟩
        · refine ⟨hk2.os.trans hb0.os, hk2.tape.trans hb0.tape, hk2.output.trans hb0.output, by simp; have := hk2.size; omega, fun k hk hn => (World.putObj_heap_other (by omega)).trans ?_⟩
          exact (hk2.block k (by omega) (fun e => e.elim hn (fun e => by omega))).trans (hb0.block k hk)
        · intro k hk
          exact (gr0 hF2 k hk).imp id (fun h => ⟨h.1, by simp; exact h.2⟩)
        · exact hx _ _ _ _ _ hJx (keep_put1 _ n2.2 hl)
end Go.Proofs.YtamfjgioajmnpaaGreatDoor
namespace Go.Proofs.YtamfjgioajmnpaaGreatDoor
open Go.RowKit
set_option linter.unusedVariables false
set_option linter.unusedSimpArgs false

/-- what a yield hands over -/
inductive PX where
  | op (o : OpP) (Ap : Option Addr) (np cp : Nat) (At : Option Addr) (nt ct : Nat)
  | er (e : Int)
def PX.enc : PX → Array Value
  | .op o Ap np cp At nt ct => #[.agg #[.int .i64 o.kind, .int .i64 o.addr, .int .u8 o.code, .bool o.graph, .int .u8 o.fa, .slice Ap np cp, .slice At nt ct], .int .i64 0]
  | .er e => #[.agg #[.int .i64 0, .int .i64 0, .int .u8 0, .bool false, .int .u8 0, .slice none 0 0, .slice none 0 0], .int .i64 e]
section
variable {ρ : Type}
def P1T (Rest : ρ → (Nat → Prop) → World → Prop) (bd : ρ → OpP → ρ) (r0 : ρ) (l : List Int) (r : ρ) (x : PX) (F : Nat → Prop) (W : World) : Prop :=
  Rest r F W ∧ match x with
    | .op o Ap np cp At nt ct => (∃ pre post, (ordsOf l).1 = pre ++ o :: post ∧ r = pre.foldl bd r0) ∧ Pr 0 W Ap np cp o.prs ∧ Sl 0 W At nt ct o.tx ∧ (∀ q, Ap = some q → ¬ F q.block) ∧ (∀ q, At = some q → ¬ F q.block)
    | .er e => e ≠ 0 ∧ (ordsOf l).2 ≠ [] ∧ r = (ordsOf l).1.foldl bd r0
def P2T (Rest : ρ → (Nat → Prop) → World → Prop) (bd : ρ → OpP → ρ) (r : ρ) (x : PX) (F : Nat → Prop) (W : World) : Prop :=
  match x with
    | .op o _ _ _ _ _ _ => Rest (bd r o) F W
    | .er _ => False
def PeT (Rest : ρ → (Nat → Prop) → World → Prop) (bd : ρ → OpP → ρ) (r0 : ρ) (l : List Int) (r : ρ) (F : Nat → Prop) (W : World) : Prop :=
  (ordsOf l).2 = [] ∧ r = (ordsOf l).1.foldl bd r0 ∧ Rest r F W
end
/-- how long what is left is -/
def remN (w : World) (B : Nat) : Nat := match w.cell? ⟨B, 0, none⟩ with
  | some (.slice _ n _) => n
  | _ => 0
theorem remN_of {w : World} {B n c : Nat} {A : Option Addr} (h : w.cell? ⟨B, 0, none⟩ = some (.slice A n c)) : remN w B = n := by unfold remN; rw [h]
/-- how the loop stands -/
structure ParI [QP] {ρ : Type} (Rest : ρ → (Nat → Prop) → World → Prop) (bd : ρ → OpP → ρ) (r0 : ρ) (l : List Int) (F0 : Nat → Prop) (W : World) (B : Nat) (r : ρ) (l1 : List Int) (A1 : Option Addr) (n1 c1 : Nat) (wr : World) : Prop where
  kp : Keep F0 W wr
  rs : ∃ Fr, (∀ k, Fr k → Gr F0 W wr k) ∧ Rest r Fr wr ∧ ¬ Fr B
  sc : Sc wr B A1 n1 c1 l1 0
  at_ : ∃ pre, (ordsOf l).1 = pre ++ (ordsOf l1).1 ∧ (ordsOf l).2 = (ordsOf l1).2 ∧ r = pre.foldl bd r0
theorem enters_parse : ∀ args w, (callFunc 382 args).run Tryz.prog w = .ok (.enter 382 args) w := enters_of Tryz.func382 (by kernel_rfl) rfl
set_option maxRecDepth 100000 in
set_option maxHeartbeats 12800000 in
theorem parse_it {ρ : Type} {Rest : ρ → (Nat → Prop) → World → Prop} {bd : ρ → OpP → ρ} {Xs : ρ → PX → (Nat → Prop) → World → Prop} {b1 n c : Nat} {A : Option Addr} {l : List Int} {F0 : Nat → Prop} {r0 : ρ} {w : World}
    (hRk : ∀ r F W W' (E : Nat → Prop), Rest r F W → Keep E W W' → (∀ k, F k → ¬ E k) → Rest r F W') (hRl : ∀ r F W, Rest r F W → ∀ k, F k → k < W.heap.size)
    (h0 : Rest r0 F0 w) (hc1 : w.cell? ⟨b1, 0, none⟩ = some (.slice A n c)) (hp : Sl 0 w A n c l) (hA : ∀ q, A = some q → ¬ F0 q.block) :
    ItX Tryz.prog 382 #[.pointer (some ⟨b1, 0, none⟩)] PX.enc F0 (P1T Rest bd r0 l) (P2T Rest bd) Xs (PeT Rest bd r0 l) w := by
  intro k lb ob W hu hlF hlW hob hY
  letI : QP := ⟨fun k => ¬ F0 k⟩
  have q1 : W.cell? ⟨b1, 0, none⟩ = some (.slice A n c) := ((hu.at_ b1 (cell_lt hc1)).1 0).trans hc1
  have zz1 := cell_lt q1
  have hR : Rest r0 F0 W := hRk _ _ _ _ (fun _ => False) h0 (Keep.of_up hu) (fun _ _ h => h)
  have hlt0 : ∀ k, F0 k → k < W.heap.size := hRl _ _ _ hR
  have hpW := hp.up hu
  have hu1 : Up W (W.alloc (.cells #[.slice A n c, .int .i64 0] 477)) := (Up.refl W).alloc _
  have hsc : Sc (W.alloc (.cells #[.slice A n c, .int .i64 0] 477)) W.heap.size A n c l 0 :=
    ⟨hpW.up hu1, fun p hp => ⟨hpW.lt hp, hA p hp⟩, by simp [go_sem], by simp [go_sem], by simp [go_sem], by simp [go_sem]⟩
  have hlp : ParI Rest bd r0 l F0 W W.heap.size r0 l A n c (W.alloc (.cells #[.slice A n c, .int .i64 0] 477)) :=
    ⟨Keep.of_up hu1, ⟨F0, fun k hk => .inl hk, hRk _ _ _ _ (fun _ => False) hR (Keep.of_up hu1) (fun _ _ h => h), fun h => by have := hlt0 _ h; omega⟩, hsc, [], rfl, rfl, rfl⟩
  have HY := Lib.hid hY
  have HRK := Lib.hid hRk
  have HRL := Lib.hid hRl
  have HLT0 := Lib.hid hlt0
  have HLP := Lib.hid hlp
  clear hR hY hRk hRl hlt0 h0 hu hp hpW hc1 hu1 hsc hlp hA
  refine callsIn_of_wp Tryz.func382 rfl trivial ?_ rfl
  simp only [Tryz.ntmps382, List.size_toArray, List.length_cons, List.length_nil, Nat.reduceAdd, Nat.reduceSub, Array.replicate_succ, Array.replicate_zero, List.push_toArray, List.append_toArray, List.nil_append, List.cons_append]
  gi_wp2
  gi_loopw [4] (fun q wr => ∃ (r : ρ) (l1 : List Int) (A1 : Option Addr) (n1 c1 : Nat), ParI Rest bd r0 l F0 W W.heap.size r l1 A1 n1 c1 wr) (fun q wr => remN wr W.heap.size)
  case atStart => exact ⟨r0, l, A, n, c, HLP.out⟩
  case round =>
    obtain ⟨r, l1, A1, n1, c1, hlp⟩ := hrel
    have HLQ := Lib.hid hlp
    have s0 := hlp.sc.c0
    have s1 := hlp.sc.c1
    have zb := hlp.sc.lt
    have hn1 := hlp.sc.sl.len
    have hrm := remN_of s0
    cases l1 with
    | nil =>
      obtain rfl : n1 = 0 := by simpa using hn1.symm
      clear hlp hn1
      gi_wp2
      go_end0
      obtain ⟨pre, e1, e2, e3⟩ := HLQ.out.at_
      obtain ⟨Fr, f1, f2, f3⟩ := HLQ.out.rs
      have o1 : (ordsOf ([] : List Int)).1 = [] := rfl
      have o2 : (ordsOf ([] : List Int)).2 = [] := rfl
      rw [o1, List.append_nil] at e1
      exact ⟨⟨_, rfl⟩, .inl ⟨HLQ.out.kp, r, Fr, f1, by rw [e2, o2], by rw [e1, e3], f2⟩⟩
    | cons x q =>
      have hn1' : 0 < n1 := by simp at hn1; omega
      have hpos : (0 : Int) < (n1 : Int) := by omega
      have HOP := Lib.hid (op_is HLQ.out.sc (by simp))
      have HN := Lib.hid (show n1 = (x :: q).length from hn1.symm)
      have HRM := Lib.hid hrm
      clear hlp hn1 hrm
      cases h1 : one (x :: q) with
      | none =>
        rw [AnyOp.bad h1] at HOP
        have H1 := Lib.hid h1
        clear h1
        gi_wp2_with (refine ⟨trivial, (fun h => by simp [Fence.wide] at h), ?_⟩; gi_at_call 383; go_loud (refine (callsIn_wide.2 HOP.out).mono ?_; rintro e w3 ⟨ok, oa, oc, og, of_, Ap, np, cp, At, nt, ct, A', n', c', l', e1, rfl, he, hs3, hk3⟩; have HS3 := Lib.hid hs3; have HK3 := Lib.hid hk3; have d1 := hs3.c1; have zb3 := hs3.lt; have hne : (e1 != 0) = true := bne_iff_ne.mpr he; have HE := Lib.hid he; clear hs3 hk3 he))
        obtain ⟨W4, hW4⟩ : ∃ W4, w3.alloc (.cells #[.int .i64 ok, .int .i64 oa, .int .u8 oc, .bool og, .int .u8 of_, .slice Ap np cp, .slice At nt ct] 463) = W4 := ⟨_, rfl⟩
        have hu4 : Up w3 W4 := by rw [← hW4]; exact (Up.refl w3).alloc _
        obtain ⟨Fr, f1, f2, f3⟩ := HLQ.out.rs
        obtain ⟨pre, e1', e2', e3'⟩ := HLQ.out.at_
        have ho := ords_none H1.out
        rw [ho] at e1' e2'
        simp only [List.append_nil] at e1'
        have hk4 : Keep (fun k => k = W.heap.size) wr W4 := (HK3.out).up hu4
        have zr := hk4.size
        have hlr : ∀ k, Fr k → k < wr.heap.size := HRL.out _ _ _ f2
        have hkp4 : Keep F0 W W4 := HLQ.out.kp.far ⟨hk4.os, hk4.tape, hk4.output, hk4.size, fun i hi => hk4.block i (by have := HLQ.out.kp.size; omega) (by omega)⟩
        have hF4 : ∀ k, Fr k → Gr F0 W W4 k := fun k hk => (f1 k hk).imp id (fun h => ⟨h.1, by omega⟩)
        have hrs4 : Rest r Fr W4 := HRK.out _ _ _ _ _ f2 hk4 (fun k hk e => f3 (e ▸ hk))
        have hz3 : wr.heap.size ≤ w3.heap.size := HK3.out.size
        obtain ⟨fn, tmps, assign, body, hyy, hR⟩ := HY.out r (.er e1) Fr W4 hkp4 hF4 ⟨hrs4, HE.out, by rw [e2']; simp, by rw [e1', e3']⟩
        simp only [PX.enc] at hyy
        have d4 := ((hu4.at_ W.heap.size zb3).1 1).trans d1
        have HFR := Lib.hid f1
        have HRY := Lib.hid hR
        have HKP4 := Lib.hid hkp4
        have HU4 := Lib.hid hu4
        clear f1 f2 f3 e1' e2' e3' ho hR hkp4 hu4 hrs4 hF4 hlr
        rw [hW4]
        gi_wp2
        rw [hyy]
        refine ⟨fun h => by simp [Fence.wide] at h, ?_⟩
        refine HRY.out.mono ?_
        rintro e W5 (⟨rfl, hk5, F2, hF2, hj2⟩ | ⟨rfl, hk5, hob5, F2, hF2, hjx⟩)
        · exact hj2.elim
        · have HK5 := Lib.hid hk5
          have HF2 := Lib.hid hF2
          have HJX := Lib.hid hjx
          have HOB := Lib.hid hob5
          clear hk5 hF2 hjx hyy hob5
          gi_wp2
          refine bodyPost_ret (results_none rfl _ _ _) rfl ?_
          refine ⟨⟨_, rfl⟩, .inr ⟨?_, HOB.out, _, _, F2, fun k hk => ?_, HJX.out⟩⟩
          · refine ⟨HK5.out.os.trans HKP4.out.os, HK5.out.tape.trans HKP4.out.tape, HK5.out.output.trans HKP4.out.output, Nat.le_trans HKP4.out.size HK5.out.size, fun i hi hn => ?_⟩
            refine (HK5.out.block i (Nat.lt_of_lt_of_le hi HKP4.out.size) (fun e => ?_)).trans (HKP4.out.block i hi (fun e => hn (.inl e)))
            rcases e with e | e
            · rcases HFR.out i e with h | h
              · exact hn (.inl h)
              · omega
            · exact hn (.inr e)
          · have zz := HK5.out.size
            have zz3 := HKP4.out.size
            have hlt4 : w3.heap.size ≤ W4.heap.size := HU4.out.size
            rcases HF2.out k hk with h | h
            · exact (HFR.out k h).imp id (fun h => ⟨h.1, by omega⟩)
            · exact .inr ⟨by omega, h.2⟩
      | some p =>
        obtain ⟨o, rr⟩ := p
        rw [AnyOp.good h1] at HOP
        have H1 := Lib.hid h1
        clear h1
        gi_wp2_with (refine ⟨trivial, (fun h => by simp [Fence.wide] at h), ?_⟩; gi_at_call 383; refine (callsIn_wide.2 HOP.out).mono ?_; rintro e w3 ⟨Ap, np, cp, At, nt, ct, rfl, hpr, hsl, ⟨A', n', c', hs3⟩, hk3⟩; have HS3 := Lib.hid hs3; have HK3 := Lib.hid hk3; have d1 := hs3.c1; have zb3 := hs3.lt; have HPR := Lib.hid hpr; have HSL := Lib.hid hsl; clear hs3 hk3 hpr hsl)
        obtain ⟨W4, hW4⟩ : ∃ W4, w3.alloc (.cells #[.int .i64 o.kind, .int .i64 o.addr, .int .u8 o.code, .bool o.graph, .int .u8 o.fa, .slice Ap np cp, .slice At nt ct] 463) = W4 := ⟨_, rfl⟩
        have hu4 : Up w3 W4 := by rw [← hW4]; exact (Up.refl w3).alloc _
        obtain ⟨Fr, f1, f2, f3⟩ := HLQ.out.rs
        obtain ⟨pre, e1, e2, e3⟩ := HLQ.out.at_
        have ho := ords_some H1.out
        rw [ho] at e1 e2
        have hk4 : Keep (fun k => k = W.heap.size) wr W4 := (HK3.out).up hu4
        have zr := hk4.size
        have hlr : ∀ k, Fr k → k < wr.heap.size := HRL.out _ _ _ f2
        have hkp4 : Keep F0 W W4 := HLQ.out.kp.far ⟨hk4.os, hk4.tape, hk4.output, hk4.size, fun i hi => hk4.block i (by have := HLQ.out.kp.size; omega) (by omega)⟩
        have hF4 : ∀ k, Fr k → Gr F0 W W4 k := fun k hk => (f1 k hk).imp id (fun h => ⟨h.1, by omega⟩)
        have hrs4 : Rest r Fr W4 := HRK.out _ _ _ _ _ f2 hk4 (fun k hk e => f3 (e ▸ hk))
        have hz3 : wr.heap.size ≤ w3.heap.size := HK3.out.size
        obtain ⟨fn, tmps, assign, body, hyy, hR⟩ := HY.out r (.op o Ap np cp At nt ct) Fr W4 hkp4 hF4 ⟨hrs4, ⟨pre, (ordsOf rr).1, e1, e3⟩, (HPR.out.low (Nat.zero_le _)).up hu4, (HSL.out.low (Nat.zero_le _)).up hu4, fun q hq h => by have := HPR.out.at_ q hq; have := hlr _ h; omega, fun q hq h => by have := HSL.out.at_ q hq; have := hlr _ h; omega⟩
        simp only [PX.enc] at hyy
        have HE123 := Lib.hid (And.intro e1 (And.intro e2 e3))
        have HFR := Lib.hid f1
        have HF3 := Lib.hid f3
        have HRY := Lib.hid hR
        have HKP4 := Lib.hid hkp4
        have HU4 := Lib.hid hu4
        have HLR := Lib.hid hlr
        clear f1 f2 f3 e1 e2 e3 ho hR hkp4 hu4 hrs4 hF4 hlr
        rw [hW4]
        gi_wp2
        refine ⟨fun h => by simp [Fence.wide] at h, ?_⟩
        refine HRY.out.mono ?_
        rintro e W5 (⟨rfl, hk5, F2, hF2, hj2⟩ | ⟨rfl, hk5, hob5, F2, hF2, hjx⟩)
        · have HK5 := Lib.hid hk5
          have HF2 := Lib.hid hF2
          have HJ2 := Lib.hid hj2
          clear hk5 hF2 hj2 hyy
          gi_wp2
          have zz := HK5.out.size
          have zz3 := HKP4.out.size
          have hlt4 : w3.heap.size ≤ W4.heap.size := HU4.out.size
          have hsc5 : Sc W5 W.heap.size A' n' c' rr 0 := by
            have h4 := HS3.out.up HU4.out
            have hB : ¬ Fr W.heap.size := HF3.out
            have hAq : ∀ p, A' = some p → ¬ Fr p.block := fun p hp h => by
              have h5 := h4.lo p hp
              rcases HFR.out _ h with h | h
              · exact h5.2 h
              · have := h5.1; omega
            have hb := HK5.out.at_ W.heap.size h4.lt hB
            exact ⟨h4.sl.past HK5.out hAq, h4.lo, (hb.1 0).trans h4.c0, (hb.1 1).trans h4.c1, (hb.2 0).trans h4.f0, (hb.2 1).trans h4.f1⟩
          refine ⟨⟨bd r o, rr, A', n', c', ?_, ⟨F2, fun k hk => ?_, HJ2.out, fun h => ?_⟩, hsc5, pre ++ [o], ?_, ?_, ?_⟩, ?_⟩
          · exact HKP4.out.gr (HK5.out.mono (fun k hk => (HFR.out k hk).imp id (fun h => ⟨h.1, by omega⟩)))
          · rcases HF2.out k hk with h | h
            · exact (HFR.out k h).imp id (fun h => ⟨h.1, by omega⟩)
            · exact .inr ⟨by omega, h.2⟩
          · rcases HF2.out _ h with h | h
            · exact HF3.out h
            · have := HLQ.out.sc.lt; omega
          · rw [HE123.out.1]; simp
          · exact HE123.out.2.1
          · rw [HE123.out.2.2, List.foldl_append]; rfl
          · rw [remN_of hsc5.c0, HRM.out, ← hsc5.sl.len, HN.out]
            have := one_short H1.out
            exact this
        · have HK5 := Lib.hid hk5
          have HF2 := Lib.hid hF2
          have HJX := Lib.hid hjx
          have HOB := Lib.hid hob5
          clear hk5 hF2 hjx hyy hob5
          gi_wp2
          refine bodyPost_ret (results_none rfl _ _ _) rfl ?_
          refine ⟨⟨_, rfl⟩, .inr ⟨?_, HOB.out, _, _, F2, fun k hk => ?_, HJX.out⟩⟩
          · refine ⟨HK5.out.os.trans HKP4.out.os, HK5.out.tape.trans HKP4.out.tape, HK5.out.output.trans HKP4.out.output, Nat.le_trans HKP4.out.size HK5.out.size, fun i hi hn => ?_⟩
            refine (HK5.out.block i (Nat.lt_of_lt_of_le hi HKP4.out.size) (fun e => ?_)).trans (HKP4.out.block i hi (fun e => hn (.inl e)))
            rcases e with e | e
            · rcases HFR.out i e with h | h
              · exact hn (.inl h)
              · omega
            · exact hn (.inr e)
          · have zz := HK5.out.size
            have zz3 := HKP4.out.size
            have hlt4 : w3.heap.size ≤ W4.heap.size := HU4.out.size
            rcases HF2.out k hk with h | h
            · exact (HFR.out k h).imp id (fun h => ⟨h.1, by omega⟩)
            · exact .inr ⟨by omega, h.2⟩
end Go.Proofs.YtamfjgioajmnpaaGreatDoor
namespace Go.Proofs.YtamfjgioajmnpaaGreatDoor
open Go.RowKit
set_option linter.unusedVariables false
set_option linter.unusedSimpArgs false
attribute [local go_sem] Oper.semAt_some

theorem Keep.past2 {T N : Nat → Prop} {w W W' : World} (h : Keep T w W) (hk : Keep N W W') (hn : ∀ k, N k → w.heap.size ≤ k ∨ T k) : Keep T w W' :=
  ⟨hk.os.trans h.os, hk.tape.trans h.tape, hk.output.trans h.output, Nat.le_trans h.size hk.size, fun k hlt ht => (hk.block k (by have := h.size; omega) (fun e => by rcases hn k e with h | h; omega; exact ht h)).trans (h.block k hlt ht)⟩
end Go.Proofs.YtamfjgioajmnpaaGreatDoor
