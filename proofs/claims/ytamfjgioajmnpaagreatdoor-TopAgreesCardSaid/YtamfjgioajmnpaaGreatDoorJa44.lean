/-
range_s, told at the end besides that the loop's own block is none of the holders'. No condition.
What session.Bytes does with bytes whose records the terminal takes without a word. Conditions: what is asked of each event; what the terminal does.
What a terminal makes of the form, of the sign A and of Enter. No condition.
-/
import Derived.Test.YtamfjgioajmnpaaGreatDoorJa18
import Derived.Test.YtamfjgioajmnpaaGreatDoorJa43
import Derived.Test.YtamfjgioajmnpaaGreatDoorJa38
import Derived.Test.YtamfjgioajmnpaaGreatDoorJa42
namespace Go.Proofs.YtamfjgioajmnpaaGreatDoor
open Go.RowKit
set_option linter.unusedVariables false
set_option linter.unusedSimpArgs false

theorem range_t {σ α : Type} {P : Program} {n : Nat} {g : Operand} {ps : Array Tmp} {assign body : Code} {Q : Exit → Act → World → Prop} {a : Act} {w : World}
    {gf : Nat} {lb : Array Value} (hg : a.eval g = .func (.func gf) #[] lb) (eg : ∀ args w, (callFunc gf args).run P w = .ok (.enter gf args) w)
    {encs : α → Array Value} {F0 : Nat → Prop} {J1 J2 : σ → α → (Nat → Prop) → World → Prop} {Je : σ → (Nat → Prop) → World → Prop} (hseq : ItS P gf lb encs F0 J1 J2 Je w) (hF : ∀ k, F0 k → k < w.heap.size) (hps : ∀ x, (encs x).size = ps.size)
    (h1 : LocF J1) (h2 : LocF J2) (he : LocE Je)
    (Ax : σ → α → Act → World → Prop) (hAx : ∀ s x a', Still (Calm w.heap.size (fun _ => False)) (fun (_ : Unit) W => Ax s x a' W))
    (hassign : ∀ (l : Nat) (s : σ) (x : α) (F1 : Nat → Prop) (W1 : World) (K : Act → World → Prop), Keep F0 w W1 → (∀ k, F1 k → Gr F0 w W1 k) → J1 s x F1 W1 → (∀ a' W', Up W1 W' → Ax s x a' W' → K a' W') →
      assign.wpIn (Fence.wide.inRound l) (n - 1 - 1) P (Exit.then K (fun _ _ _ => False)) { tmps := (ps.zip (encs x)).foldl (fun t (p, v) => t.setIfInBounds p v) a.tmps, defers := [] } W1)
    (hbody : ∀ (l : Nat) (s : σ) (x : α) (F1 : Nat → Prop) (a' : Act) (W1 : World), Keep F0 w W1 → (∀ k, F1 k → Gr F0 w W1 k) → J1 s x F1 W1 → Ax s x a' W1 →
      body.wpIn (Fence.wide.inRound l) (n - 1 - 1) P (postS J2 s x F1 W1) a' W1)
    (hdone : ∀ (D : Nat) (s : σ) (F2 : Nat → Prop) (W : World), w.heap.size ≤ D → Keep F0 w W → (∀ k, F2 k → Gr F0 w W k) → ¬ F2 D → Je s F2 W → W.heap[D]? = some (.deferred (some [])) → Q .normal { a with defers := { target := .collected D, args := #[] } :: a.defers } W) :
    (Code.rangeFunc g ps assign body).wpIn Fence.wide n P Q a w := by
  refine wpIn_rangeFunc ?_
  intro fn hfn
  rw [Fence.wide_round]
  obtain ⟨rec, hrec⟩ : ∃ rec : LoopState → Option Code → Loop, rec = fun st pe => { state := st, pending := pe, fn, tmps := a.tmps, params := ps, assign, body, defers := w.heap.size } := ⟨_, rfl⟩
  obtain ⟨W0, hW0⟩ : ∃ W0, (w.alloc (.deferred (some []))).alloc (.loop (rec .ready none)) = W0 := ⟨_, rfl⟩
  have hz0 : W0.heap.size = w.heap.size + 2 := by rw [← hW0]; simp
  have hL0 : W0.heap[w.heap.size + 1]? = some (.loop (rec .ready none)) := by
    rw [← hW0]; have := World.alloc_heap_new (w.alloc (.deferred (some []))) (.loop (rec .ready none)); rwa [World.size_alloc] at this
  have hK0 : W0.heap[w.heap.size]? = some (.deferred (some [])) := by
    rw [← hW0]; exact (Below.heap_alloc _ _ _ (by simp)).trans (World.alloc_heap_new w _)
  have hb0 : Up w W0 := by
    rw [← hW0]; exact ((Up.refl w).alloc _).alloc _
  refine ⟨w.heap.size + 1, [{ target := .collected w.heap.size, args := #[] }], W0, { target := .fn (.func gf) lb, args := #[.func (.yield (w.heap.size + 1)) #[] #[]] }, W0, gf,
    #[.func (.yield (w.heap.size + 1)) #[] #[]] ++ lb, W0, ?_, ?_, ?_, ?_, fun h => by simp [Fence.wide] at h, ?_⟩
  · rw [← hW0, hrec]; exact run_enterLoop_outer _ _ _ _ _
  · simp only [resolve, hg]
    simp [go_sem]
  · intro f' hf'; trivial
  · simp [invoke, go_sem, eg]
  · -- what F0's holders leave of the loop's two blocks
    have step : ∀ {A B : World} {F : Nat → Prop} {o : Obj} {k : Nat}, Keep F A B → ¬ F k → A.heap[k]? = some o → B.heap[k]? = some o := fun hk hn ho => (hk.block _ (Array.getElem?_eq_some_iff.1 ho).1 hn).trans ho
    have nF : ∀ {A : World} {F : Nat → Prop}, (∀ k, F k → Gr F0 W0 A k) → ¬ F w.heap.size ∧ ¬ F (w.heap.size + 1) := fun {A F} h => by
      refine ⟨fun hk => ?_, fun hk => ?_⟩ <;>
      · rcases h _ hk with h | h
        · have := hF _ h; omega
        · omega
    have gr0 : ∀ {A : World} {F : Nat → Prop}, (∀ k, F k → Gr F0 W0 A k) → ∀ k, F k → Gr F0 w A k := fun h k hk => (h k hk).imp id (fun h => ⟨by omega, h.2⟩)
    have f0 : ¬ F0 w.heap.size ∧ ¬ F0 (w.heap.size + 1) := ⟨fun h => by have := hF _ h; omega, fun h => by have := hF _ h; omega⟩
    refine (hseq (n - 1) (w.heap.size + 1) W0 hb0 ?_).mono ?_
    · rintro s x F1 W hkW hF1 hJ
      have hl := step hkW f0.2 hL0
      have hd := step hkW f0.1 hK0
      have hlt : w.heap.size + 1 < W.heap.size := (Array.getElem?_eq_some_iff.1 hl).1
      have n1 := nF hF1
      have hkw : Keep F0 w W := (Keep.of_up hb0).trans hkW
      have hy := run_yield (P := P) (args := encs x) hl (by rw [hrec]; exact hps x)
      rw [hrec] at hy
      refine ⟨fn, _, assign, body, hy, roundIn_of_wpIn hfn (hassign _ s x F1 W _ hkw (gr0 hF1) hJ ?_)⟩
      clear hy
      intro a' Wa hua hax
      replace hl := (hua.block _ (Array.getElem?_eq_some_iff.1 hl).1).trans hl
      replace hd := (hua.block _ (Array.getElem?_eq_some_iff.1 hd).1).trans hd
      have hlta : w.heap.size + 1 < Wa.heap.size := (Array.getElem?_eq_some_iff.1 hl).1
      have hF1a : ∀ k, F1 k → k < W.heap.size := fun k hk => by
        rcases hF1 k hk with h | h
        · have := hF _ h; omega
        · exact h.2
      have hJa := h1 _ _ _ _ _ hJ (Keep.of_up hua)
      refine ⟨_, run_beginRound hl (by rw [hrec]), ?_⟩
      obtain ⟨Wb, hWb⟩ : ∃ Wb, Wa.putObj (w.heap.size + 1) (.loop { rec .ready none with state := .busy }) = Wb := ⟨_, rfl⟩
      have hWb' : Wa.putObj (w.heap.size + 1) (.loop { rec .ready none with state := .busy }) = Wb := hWb
      have hl2 : Wb.heap[w.heap.size + 1]? = some (.loop { rec .ready none with state := .busy }) := by rw [← hWb]; exact World.putObj_heap_same hlta
      have hd2 : Wb.heap[w.heap.size]? = some (.deferred (some [])) := by rw [← hWb]; exact (World.putObj_heap_other (by omega)).trans hd
      have hzb : Wb.heap.size = Wa.heap.size := by rw [← hWb]; simp
      have hob : ∀ k, k ≠ w.heap.size + 1 → Wb.heap[k]? = Wa.heap[k]? := fun k hk => by rw [← hWb]; exact World.putObj_heap_other hk
      have hJb : J1 s x F1 Wb := by rw [← hWb]; exact h1 _ _ _ _ _ hJa (keep_put1 _ n1.2 hl)
      have hAb : Ax s x a' Wb := by rw [← hWb]; exact hAx s x a' () _ _ hax (Calm.putObj _ (by omega) hl rfl)
      have hkb : Keep F0 w Wb := by
        have hka : Keep F0 w Wa := hkw.up hua
        exact ⟨by rw [← hWb]; exact hka.os, by rw [← hWb]; exact hka.tape, by rw [← hWb]; exact hka.output, by have := hka.size; omega, fun k hk hn => (hob k (by omega)).trans (hka.block k hk hn)⟩
      have hgb : ∀ k, F1 k → Gr F0 w Wb k := fun k hk => (gr0 hF1 k hk).imp id (fun h => ⟨h.1, by have := h.2; have := hua.size; omega⟩)
      rw [hWb']
      refine wpIn_mono (hbody _ s x F1 a' Wb hkb hgb hJb hAb) ?_
      rintro e a3 W3 hp
      cases e with
      | normal =>
        obtain ⟨hk3, F2, hF2, hJ2⟩ := hp
        have hl3 := step hk3 n1.2 hl2
        have hd3 := step hk3 n1.1 hd2
        have hlt3 : w.heap.size + 1 < W3.heap.size := (Array.getElem?_eq_some_iff.1 hl3).1
        have hr := run_endRound (P := P) none hl3
        rw [hrec] at hr
        refine ⟨_, _, hr, rfl, ?_, F2, ?_, ?_⟩
        · have z3 := hk3.size
          have zua := hua.size
          refine ⟨hk3.os.trans (by rw [← hWb]; exact hua.os), hk3.tape.trans (by rw [← hWb]; exact hua.tape), hk3.output.trans (by rw [← hWb]; exact hua.output), by simp; omega, fun k hk hn => ?_⟩
          by_cases hkl : k = w.heap.size + 1
          · subst hkl
            have := (World.putObj_heap_same (o := .loop (rec .ready none)) hlt3)
            rw [hrec] at this hl
            exact this.trans (hl.symm.trans (hua.block _ hlt))
          · exact (World.putObj_heap_other hkl).trans ((hk3.block k (by omega) hn).trans ((hob k hkl).trans (hua.block k hk)))
        · intro k hk
          refine (hF2 k hk).imp id (fun h => ⟨by have := h.1; have := hua.size; omega, by simp; exact h.2⟩)
        · refine h2 _ _ _ _ _ hJ2 (keep_put1 _ (fun hk => ?_) hl3)
          rcases hF2 _ hk with h | h
          · exact n1.2 h
          · omega
      | ret => exact hp.elim
      | exit id => exact hp.elim
      | goto t => exact hp.elim
      | panic ch => exact hp.elim
      | outgrown => exact hp.elim
    · rintro e W2 ⟨⟨v, rfl⟩, hk2, s, F2, hF2, hJe⟩
      have hl := step hk2 f0.2 hL0
      have hd := step hk2 f0.1 hK0
      have hlt : w.heap.size + 1 < W2.heap.size := (Array.getElem?_eq_some_iff.1 hl).1
      have n2 := nF hF2
      have hkw : Keep F0 w W2 := (Keep.of_up hb0).trans hk2
      refine ⟨none, _, by have := run_endLoop (P := P) hl (by rw [hrec]; simp); rw [hrec] at this; exact this, hdone _ s F2 _ (Nat.le_refl _) ?_ ?_ n2.1 ?_ ((World.putObj_heap_other (by omega)).trans hd)⟩
      · exact ⟨hkw.os, hkw.tape, hkw.output, by simp; exact hkw.size, fun k hk hn => (World.putObj_heap_other (by omega)).trans (hkw.block k hk hn)⟩
      · intro k hk
        exact (gr0 hF2 k hk).imp id (fun h => ⟨h.1, by simp; exact h.2⟩)
      · exact he _ _ _ _ hJe (keep_put1 _ n2.2 hl)
end Go.Proofs.YtamfjgioajmnpaaGreatDoor
namespace Go.Proofs.YtamfjgioajmnpaaGreatDoor
open Go.RowKit
set_option linter.unusedVariables false
set_option linter.unusedSimpArgs false
attribute [local go_sem] Oper.semAt_some

theorem take_val (bl : Nat) (A : Option Addr) (n c : Nat) (w : World) :
    Calls Tryz.prog 55 #[.pointer (some ⟨bl, 0, none⟩), .slice A n c] w fun e w' => e = .returned (.func (.func 101) #[] #[.pointer (some ⟨w.heap.size, 0, none⟩), .pointer (some ⟨w.heap.size + 1, 0, none⟩)]) ∧ w'.cell? ⟨w.heap.size, 0, none⟩ = some (.pointer (some ⟨bl, 0, none⟩)) ∧ w'.cell? ⟨w.heap.size + 1, 0, none⟩ = some (.slice A n c) ∧ w'.heap.size = w.heap.size + 2 ∧ Up w w' := by
  go_enter Tryz.func55, Tryz.ntmps55
  go_wp2
  go_ret
  exact ⟨by simp, by simp [go_sem], by simp [go_sem], by simp, by (repeat (first | with_reducible exact Up.refl _ | with_reducible refine Up.alloc ?_ _ | with_reducible refine Up.drew ?_ | with_reducible refine Up.drewN ?_ _ | with_reducible refine Up.setCell ?_ (by (try simp) <;> omega) _ | with_reducible assumption | with_reducible refine Up.trans ?_ (by assumption)))⟩
/-- a session but for its link and the table of names -/
structure SsW (w : World) (b bl bt : Nat) (F : Nat → Prop) (own : Nat → Nat) (S : SsT) (At : Option Addr) (ct : Nat) (Ae : Option Addr) (ce : Nat) : Prop where
  st : St w 121 b (ssVals bl bt At S.text.length ct Ae S.errs.length ce)
  tm : TmAt w bt (Cp F own 1) S.T
  tx : Row 5 1 w (Cp F own 0) At S.text.length ct (bs S.text)
  er : Row 27 1 w (Cp F own 0) Ae S.errs.length ce (errV S.errs)
  fb : Cp F own 0 b
  lt : ∀ k, F k → k < w.heap.size
theorem SsI.w {w : World} {b bl bt ct ce : Nat} {F : Nat → Prop} {own : Nat → Nat} {S : SsT} {At Ae : Option Addr} (h : SsI w b bl bt F own S At ct Ae ce) : SsW w b bl bt F own S At ct Ae ce := ⟨h.st, h.tm, h.tx, h.er, h.fb, h.lt⟩
theorem SsW.keep {w w' : World} {b bl bt ct ce : Nat} {F E : Nat → Prop} {own : Nat → Nat} {S : SsT} {At Ae : Option Addr} (h : SsW w b bl bt F own S At ct Ae ce) (hk : Keep E w w') (he : ∀ k, F k → ¬ E k) : SsW w' b bl bt F own S At ct Ae ce :=
  ⟨h.st.keep hk (he _ h.fb.1), h.tm.keep hk (fun k hk => he k hk.1), h.tx.keep hk (fun g hg => he g (h.tx.in_ g hg).1), h.er.keep hk (fun g hg => he g (h.er.in_ g hg).1), h.fb, fun k hk' => by have := h.lt k hk'; have := hk.size; omega⟩
/-- a session but for its link, and the count of what came -/
structure SbR (b bl q : Nat) (r : SsT × Nat) (F : Nat → Prop) (W : World) : Prop where
  ss : ∃ Fs bt own At ct Ae ce, SsW W b bl bt Fs own r.1 At ct Ae ce ∧ (∀ k, Fs k → F k) ∧ ¬ Fs q
  fq : F q
  st : St W 3 q [.int .i64 (r.2 : Int)]
  lt : ∀ k, F k → k < W.heap.size
theorem SbR.keep {b bl q : Nat} {r : SsT × Nat} {F E : Nat → Prop} {W W' : World} (h : SbR b bl q r F W) (hk : Keep E W W') (he : ∀ k, F k → ¬ E k) : SbR b bl q r F W' := by
  obtain ⟨Fs, bt, own, At, ct, Ae, ce, h1, h2, h3⟩ := h.ss
  exact ⟨⟨Fs, bt, own, At, ct, Ae, ce, h1.keep hk (fun k hk => he k (h2 k hk)), h2, h3⟩, h.fq, h.st.keep hk (he _ h.fq), fun k hk' => by have := h.lt k hk'; have := hk.size; omega⟩
def bdS (hs : TmT → List Int → TmT) (L : LkT) (r : SsT × Nat) (y : LEv) : LkT × (SsT × Nat) := (L, ({ r.1 with T := hs r.1.T y.data, errs := r.1.errs ++ [0] }, r.2 + 1))
def OkS (hs : TmT → List Int → TmT) (L : LkT) (r : SsT × Nat) (y : LEv) : Prop := y = bareEv 1 y.data ∧ r.1.errs.length < 64 ∧ r.2 < 1000000 ∧ THostDo r.1.T (hs r.1.T y.data) y.data
set_option maxRecDepth 100000 in
set_option maxHeartbeats 12800000 in
theorem sbytes_is {hs : TmT → List Int → TmT} {w : World} {b n c : Nat} {A : Option Addr} {p : List Int} {F Gp : Nat → Prop} {L : LkT} {S : SsT} (h : SesAt w b F L S) (hp : Bt w Gp A n c p) (hGp : ∀ k, Gp k → ¬ F k)
    (hn : n ≤ 40000) (hd : L.rd.data.length ≤ 30000) (ho : L.rd.out.length ≤ 30000) (hsb : L.rd.sub.length ≤ 256)
    (hTk : ∀ j e, (feedT L.rd p).out[j]? = some e → TkOk ((((feedT L.rd p).out.take j).foldl (stepLk (bdS hs)) ({ L with rd := { feedT L.rd p with out := [] } }, (S, 0))).1) e)
    (hBd : ∀ j e y, (feedT L.rd p).out[j]? = some e → (takeLk (((feedT L.rd p).out.take j).foldl (stepLk (bdS hs)) ({ L with rd := { feedT L.rd p with out := [] } }, (S, 0))).1 e).2 = some y → OkS hs (takeLk (((feedT L.rd p).out.take j).foldl (stepLk (bdS hs)) ({ L with rd := { feedT L.rd p with out := [] } }, (S, 0))).1 e).1 (((feedT L.rd p).out.take j).foldl (stepLk (bdS hs)) ({ L with rd := { feedT L.rd p with out := [] } }, (S, 0))).2 y)
    {fin : LkT × (SsT × Nat)} (hfin : (feedT L.rd p).out.foldl (stepLk (bdS hs)) ({ L with rd := { feedT L.rd p with out := [] } }, (S, 0)) = fin) :
    Calls Tryz.prog 14 #[.pointer (some ⟨b, 0, none⟩), .slice A n c] w fun e w' => e = .returned (.int .i64 (fin.2.2 : Int)) ∧ SesAt w' b (Gr F w w') fin.1 fin.2.1 ∧ Keep F w w' := by
  obtain ⟨bl, Fl, Fr, h⟩ := h
  obtain ⟨bt, own, At, ct, Ae, ce, hss⟩ := h.ss
  obtain ⟨W0, hW0⟩ : ∃ W0, (w.alloc (.cells #[.pointer (some ⟨b, 0, none⟩)] 26)).alloc (.cells #[.int .i64 0] 3) = W0 := ⟨_, rfl⟩
  have hu0 : Up w W0 := by rw [← hW0]; exact ((Up.refl w).alloc _).alloc _
  have s2 : St W0 26 w.heap.size [.pointer (some ⟨b, 0, none⟩)] := by rw [← hW0]; exact (St.new w 26 [.pointer (some ⟨b, 0, none⟩)] rfl).alloc _
  have s5 : St W0 3 (w.heap.size + 1) [.int .i64 0] := by
    rw [← hW0]
    have := St.new (w.alloc (.cells #[.pointer (some ⟨b, 0, none⟩)] 26)) 3 [.int .i64 0] rfl
    rwa [World.size_alloc] at this
  have hz0 : W0.heap.size = w.heap.size + 2 := by rw [← hW0]; simp
  have k0 := (hss.up hu0).st.cell 0 (v := .pointer (some ⟨bl, 0, none⟩)) rfl
  have zb := (hss.up hu0).st.lt
  rw [← hW0] at k0 zb
  have H := Lib.hid h
  have HW0 := Lib.hid hW0
  have HU0 := Lib.hid hu0
  have S2 := Lib.hid s2
  have S5 := Lib.hid s5
  have HP := Lib.hid hp
  have HGP := Lib.hid hGp
  have HN := Lib.hid hn
  have HRB := Lib.hid (And.intro hd (And.intro ho hsb))
  have HTK := Lib.hid hTk
  have HBD := Lib.hid hBd
  have HFIN := Lib.hid hfin
  clear h hss hu0 hW0 s2 s5 hp hGp hn hd ho hsb hTk hBd hfin
  refine (callsIn_wide (n := 9)).1 ?_
  refine callsIn_of_wp_marks Tryz.func14 rfl trivial ?_ rfl
  simp only [Tryz.ntmps14, List.size_toArray, List.length_cons, List.length_nil, Nat.reduceAdd, Nat.reduceSub, Array.replicate_succ, Array.replicate_zero, List.push_toArray, List.append_toArray, List.nil_append, List.cons_append]
  refine wpIn_wide.2 ?_
  go_wp2_with fail
  rw [HW0.out]
  refine (take_val _ _ _ _ _).mono ?_
  rintro e w1 ⟨rfl, hc1, hc2, hz1, hu1⟩
  have hu01 := HU0.out.trans hu1
  have hlt := H.out.lt
  have hss0 : ∃ Fs bt own At ct Ae ce, SsW w1 b bl bt Fs own S At ct Ae ce ∧ (∀ k, Fs k → (Fr k ∨ k = w.heap.size + 1)) ∧ ¬ Fs (w.heap.size + 1) := by
    obtain ⟨bt', own', At', ct', Ae', ce', hss⟩ := H.out.ss.up hu01
    exact ⟨Fr, bt', own', At', ct', Ae', ce', hss.w, fun k hk => .inl hk, fun e => by have := hlt _ (H.out.fr _ e); omega⟩
  have hsb0 : SbR b bl (w.heap.size + 1) (S, 0) (fun k => Fr k ∨ k = w.heap.size + 1) w1 := ⟨hss0, .inr rfl, S5.out.up hu1, fun k hk => by
    rcases hk with hk | hk
    · have := hlt _ (H.out.fr _ hk); omega
    · omega⟩
  have hjt : JT (SbR b bl (w.heap.size + 1)) bl L (S, 0) Fl (fun k => Fr k ∨ k = w.heap.size + 1) w1 := ⟨fun k hk hr => by
    rcases hr with hr | hr
    · exact H.out.ap k hk hr
    · have := hlt _ (H.out.fl _ hk); omega, H.out.lk.up hu01, hsb0⟩
  have hit := take_it (Rest := SbR b bl (w.heap.size + 1)) (bd := bdS hs) (OkB := OkS hs) (b := bl) (b1 := W0.heap.size) (b2 := W0.heap.size + 1) (Gp := Gp) (fun r F W W' E h hk he => SbR.keep h hk he) (fun r F W h => h.lt) hjt hc1 hc2 (HP.out.up hu01) (fun k hk e => HGP.out k hk (H.out.fl _ e))
    ⟨fun e => by have := hlt _ (H.out.fl _ e); omega, fun e => by rcases e with e | e; (have := hlt _ (H.out.fr _ e); omega); omega⟩ ⟨fun e => by have := hlt _ (H.out.fl _ e); omega, fun e => by rcases e with e | e; (have := hlt _ (H.out.fr _ e); omega); omega⟩ HN.out HRB.out.1 HRB.out.2.1 HRB.out.2.2 HTK.out HBD.out
  rw [HFIN.out, hz0] at hit
  have HIT := Lib.hid hit
  have HU1 := Lib.hid hu01
  have HC1 := Lib.hid (S2.out.up hu1)
  have hF0 : ∀ k, (Fl k ∨ (Fr k ∨ k = w.heap.size + 1)) → k < w1.heap.size := fun k hk => by
    rcases hk with hk | hk | hk
    · have := hlt _ (H.out.fl _ hk); omega
    · have := hlt _ (H.out.fr _ hk); omega
    · omega
  have HF0 := Lib.hid hF0
  clear hss0 hsb0 hjt hit hu01 hc1 hc2 hlt hF0 k0 zb
  go_wp2_with fail
  refine (wpIn_wide (n := 9)).1 ?_
  refine range_t (σ := LkT × (SsT × Nat)) (α := LEvV) (n := 9) (gf := 101) (lb := #[.pointer (some ⟨w.heap.size + 2, 0, none⟩), .pointer (some ⟨w.heap.size + 2 + 1, 0, none⟩)]) (encs := fun x : LEvV => #[x.val]) (F0 := fun k => Fl k ∨ (Fr k ∨ k = w.heap.size + 1)) (J1 := J1T (SbR b bl (w.heap.size + 1)) (OkS hs) bl) (J2 := J2T (SbR b bl (w.heap.size + 1)) (bdS hs) bl) (Je := JeT (SbR b bl (w.heap.size + 1)) bl fin) ?hg ?eg ?hit ?hF ?hps ?l1 ?l2 ?l4
    (fun s x a' W => ∃ B, St W 132 B [.int .i64 x.ev.kind, .slice x.A x.ev.data.length x.c, .int .u8 x.ev.h1, .int .u8 x.ev.h2, .int .u8 x.ev.h3, .int .u16 x.ev.h4, .bool x.ev.headed] ∧ w1.heap.size ≤ B ∧ a' = { tmps := #[.pointer (some ⟨b, 0, none⟩), .slice A n c, .pointer (some ⟨w.heap.size, 0, none⟩), undef, .int .i64 0, .pointer (some ⟨w.heap.size + 1, 0, none⟩), .pointer (some ⟨B, 0, none⟩), .pointer (some ⟨b, 0, none⟩), .bool false, .pointer (some ⟨b, 0, none⟩), .pointer (some ⟨b, 0, none⟩), .pointer (some ⟨b, 0, none⟩), .pointer (some ⟨bl, 0, none⟩), .slice A n c, .func (.func 101) #[] #[.pointer (some ⟨w.heap.size + 2, 0, none⟩), .pointer (some ⟨w.heap.size + 2 + 1, 0, none⟩)], x.val, undef, undef, undef, undef, undef, undef], defers := [] }) ?ax ?assign ?body ?done
  case hg => rfl
  case eg => exact enters_take
  case hit => exact HIT.out
  case hF => exact HF0.out
  case hps => intro x; rfl
  case l1 =>
    rintro s x F1 W W' ⟨Fl1, Fr1, f1, f2, ⟨g1, g2, g3⟩, hb, hok⟩ hk
    exact ⟨Fl1, Fr1, f1, f2, ⟨g1, g2.keep hk (fun k hk hn => hn.1 (f1 k hk)), g3.keep hk (fun k hk hn => hn.1 (f2 k hk))⟩, hb.keep hk (fun g hg hn => bt_noloop hb hg hn.2), hok⟩
  case l2 =>
    rintro s x F1 W W' ⟨Fl1, Fr1, f1, f2, ⟨g1, g2, g3⟩⟩ hk
    exact ⟨Fl1, Fr1, f1, f2, ⟨g1, g2.keep hk (fun k hk hn => hn.1 (f1 k hk)), g3.keep hk (fun k hk hn => hn.1 (f2 k hk))⟩⟩
  case l4 =>
    rintro s F1 W W' ⟨hs, Fl1, Fr1, f1, f2, ⟨g1, g2, g3⟩⟩ hk
    exact ⟨hs, Fl1, Fr1, f1, f2, ⟨g1, g2.keep hk (fun k hk hn => hn.1 (f1 k hk)), g3.keep hk (fun k hk hn => hn.1 (f2 k hk))⟩⟩
  case ax =>
    rintro s x a' _ W W' ⟨B, h1, h2, h3⟩ hc
    exact ⟨B, hc.same B _ h1 (fun h => h) (.inl rfl), h2, h3⟩
  case assign =>
    rintro l' s x F1 W K hk hF1 hJ hK
    simp only [LEvV.val]
    have z1 := hk.size
    gi_wp2
    exact hK _ _ ((Up.refl W).alloc _) ⟨W.heap.size, St.new W _ _ rfl, z1, rfl⟩
  case body =>
    rintro l' s x F1 a' W hk hF1 ⟨Fl1, Fr1, f1, f2, ⟨g1, g2, g3⟩, hb, ⟨he, hle, hcnt, hdo⟩⟩ ⟨B, hB, hBn, rfl⟩
    obtain ⟨⟨ek, d, e1, e2, e3, e4, eh⟩, Ax, cx⟩ := x
    simp only [bareEv, LEv.mk.injEq] at he
    obtain ⟨rfl, -, rfl, rfl, rfl, rfl, rfl⟩ := he
    obtain ⟨Fs, bt, own, At, ct, Ae, ce, hw, f3, f4⟩ := g3.ss
    have hnz : 4 < w.heap.size := H.out.ss.tab.lt
    have hzw1 := HU1.out.size
    have hnt0 : ¬ (Fl 4 ∨ (Fr 4 ∨ 4 = w.heap.size + 1)) := fun e => by
      rcases e with e | e | e
      · exact H.out.nt (H.out.fl _ e)
      · exact H.out.nt (H.out.fr _ e)
      · omega
    have htab : TabW W := (H.out.ss.tab.up HU1.out).keep hk hnt0
    have hntS : ¬ Fs 4 := fun e => by
      rcases hF1 _ (f2 _ (f3 _ e)) with h | h
      · exact hnt0 h
      · omega
    have hSs : SsR b bl s.2.1 Fs W := ⟨bt, own, At, ct, Ae, ce, hw.st, hw.tm, hw.tx, hw.er, hw.fb, hw.lt, htab, hntS⟩
    have zl : bl < W.heap.size := g2.lt _ g2.fb
    have HEV := Lib.hid (sevent_is hSs zl hle hb (fun k h e => h (f3 k e)) hdo)
    have hq2 : ¬ (Fl w.heap.size ∨ (Fr w.heap.size ∨ w.heap.size = w.heap.size + 1)) := fun e => by
      rcases e with e | e | e
      · have := H.out.lt _ (H.out.fl _ e); omega
      · have := H.out.lt _ (H.out.fr _ e); omega
      · omega
    have sW2 := HC1.out.keep hk hq2
    have c2 := sW2.cell 0 (v := .pointer (some ⟨b, 0, none⟩)) rfl
    have z2 := sW2.lt
    have b0 := hB.cell 0 (v := .int .i64 1) rfl
    have b1 := hB.cell 1 (v := .slice Ax d.length cx) rfl
    have b2 := hB.cell 2 (v := .int .u8 0) rfl
    have b3 := hB.cell 3 (v := .int .u8 0) rfl
    have b4 := hB.cell 4 (v := .int .u8 0) rfl
    have b5 := hB.cell 5 (v := .int .u16 0) rfl
    have b6 := hB.cell 6 (v := .bool false) rfl
    have zB := hB.lt
    have c5 := g3.st.cell 0 (v := .int .i64 (s.2.2 : Int)) rfl
    have z5 := g3.st.lt
    have G2 := Lib.hid g2
    have G3 := Lib.hid g3
    have HF1 := Lib.hid hF1
    have HX := Lib.hid (And.intro g1 (And.intro f1 (And.intro f2 f3)))
    have hcI : (s.2.2 : Int) + 1 ≤ 9223372036854775807 := by omega
    simp only [evVal] at HEV
    clear hk hF1 f1 f2 g1 g2 g3 hb hle hcnt hdo hB hw hSs sW2 htab hntS hnt0 hq2 f3
    gi_wp2_with (refine ⟨trivial, ?_⟩; gi_at_call 56; (with_reducible refine (CallsIn.inRound _ (callsIn_wide.2 HEV.out)).mono ?_); rintro e w2 ⟨rfl, h2, hk2⟩; have c52 := ((hk2.at_ (w.heap.size + 1) z5 f4).1 0).trans c5; have f52 := ((hk2.at_ (w.heap.size + 1) z5 f4).2 0).trans (G3.out.st.free 0); have z52 := cell_lt c52; have H2 := Lib.hid h2; have HK2 := Lib.hid hk2; clear h2 hk2)
    obtain ⟨g1, f1, f2, f3⟩ := HX.out
    have k5 : Keep (fun j => j = w.heap.size + 1) w2 (w2.setCell ⟨w.heap.size + 1, 0, none⟩ (.int .i64 ((s.2.2 : Int) + 1))) := (Keep.refl (fun j => j = w.heap.size + 1) w2).setCell (p := ⟨w.heap.size + 1, 0, none⟩) (.inl rfl) _
    have st5 := (G3.out.st.keep HK2.out f4).set 0 (.int .i64 ((s.2.2 : Int) + 1))
    have hz3 : (w2.setCell ⟨w.heap.size + 1, 0, none⟩ (.int .i64 ((s.2.2 : Int) + 1))).heap.size = w2.heap.size := set_size ..
    generalize (w2.setCell ⟨w.heap.size + 1, 0, none⟩ (.int .i64 ((s.2.2 : Int) + 1))) = w3 at *
    have hkR : Keep Fr1 W w3 := (HK2.out.mono f3).trans (k5.mono (fun k e => by have e' : k = w.heap.size + 1 := e; rw [e']; exact G3.out.fq))
    refine ⟨hkR.mono f2, fun k => Fl1 k ∨ Gr Fr1 W w3 k, fun k hk => ?_, Fl1, Gr Fr1 W w3, fun k hk => .inl hk, fun k hk => .inr hk, fun k hl hr => ?_, G2.out.keep hkR (fun k hl hr => g1 k hl hr), ?_⟩
    · rcases hk with hk | hk
      · exact .inl (f1 k hk)
      · exact hk.imp (f2 k) id
    · rcases hr with hr | hr
      · exact g1 k hl hr
      · have := G2.out.lt k hl; omega
    · obtain ⟨bt2, own2, At2, ct2, Ae2, ce2, h2⟩ := H2.out
      have hnq : ¬ Gr Fs W w2 (w.heap.size + 1) := fun e => by
        rcases e with e | e
        · exact f4 e
        · omega
      refine ⟨⟨_, bt2, own2, At2, ct2, Ae2, ce2, h2.w.keep k5 (fun k hk e => hnq (by have e' : k = w.heap.size + 1 := e; rw [← e']; exact hk)), fun k hk => ?_, hnq⟩, .inl G3.out.fq, ?_, Gr.lt G3.out.lt hkR.size⟩
      · exact hk.imp (f3 k) (fun h => ⟨h.1, by rw [hz3]; exact h.2⟩)
      · simpa [bdS] using st5
  case done =>
    rintro D s F2 W hD hk hF2 hnD ⟨hsf, Fl1, Fr1, f1, f2, ⟨g1, g2, g3⟩⟩ hK
    have c5 := g3.st.cell 0 (v := .int .i64 (s.2.2 : Int)) rfl
    have z5 := g3.st.lt
    have HK := Lib.hid hK
    have HKP := Lib.hid hk
    have HD := Lib.hid hD
    have G2 := Lib.hid g2
    have G3 := Lib.hid g3
    have HX := Lib.hid (And.intro g1 (And.intro f1 (And.intro f2 (And.intro hF2 hnD))))
    have zD := (Array.getElem?_eq_some_iff.1 hK).1
    have HSF := Lib.hid hsf
    clear hK hk hD g1 g2 g3 f1 f2 hF2 hnD hsf
    go_wp2_with fail
    obtain ⟨g1, f1, f2, hF2, hnD⟩ := HX.out
    have hkD : Keep (fun k => k = D) W (W.putObj D (.deferred none)) := ⟨rfl, rfl, rfl, by simp, fun k _ hk => World.putObj_heap_other hk⟩
    have hlk := G2.out.keep hkD (fun k hk e => hnD (by have e' : k = D := e; rw [← e']; exact f1 k hk))
    have hsb := G3.out.keep hkD (fun k hk e => hnD (by have e' : k = D := e; rw [← e']; exact f2 k hk))
    obtain ⟨Fs, bt, own, At, ct, Ae, ce, hw, f3, f4⟩ := hsb.ss
    have hnz : 4 < w.heap.size := H.out.ss.tab.lt
    have hzw1 := HU1.out.size
    have hDw : w1.heap.size ≤ D := HD.out
    have hnt0 : ¬ (Fl 4 ∨ (Fr 4 ∨ 4 = w.heap.size + 1)) := fun e => by
      rcases e with e | e | e
      · exact H.out.nt (H.out.fl _ e)
      · exact H.out.nt (H.out.fr _ e)
      · omega
    have hFw : ∀ k, F2 k → Gr F w (W.putObj D (.deferred none)) k := fun k hk => by
      have hzp : (W.putObj D (.deferred none)).heap.size = W.heap.size := by simp
      rcases hF2 k hk with (h | h | h) | h
      · exact .inl (H.out.fl _ h)
      · exact .inl (H.out.fr _ h)
      · have := HKP.out.size; exact .inr ⟨by omega, by omega⟩
      · exact .inr ⟨by omega, by omega⟩
    have hntF : ¬ Gr F w (W.putObj D (.deferred none)) 4 := gr_nt H.out.ss.tab H.out.nt
    have htab : TabW (W.putObj D (.deferred none)) := ((H.out.ss.tab.up HU1.out).keep HKP.out hnt0).keep hkD (fun e => by have e' : 4 = D := e; omega)
    have hkw : Keep F w (W.putObj D (.deferred none)) := by
      have e1 : Keep F w W := (Keep.of_up HU1.out).gr (HKP.out.mono (fun k hk => by
        rcases hk with h | h | h
        · exact .inl (H.out.fl _ h)
        · exact .inl (H.out.fr _ h)
        · exact .inr ⟨by omega, by omega⟩))
      exact e1.gr (hkD.mono (fun k hk => by have hk' : k = D := hk; exact .inr ⟨by omega, by omega⟩))
    refine ⟨by simp, .inl ⟨_, _, rfl, run_takeDeferred HK.out, ?_⟩⟩
    refine ⟨_, results_tmp rfl _ _ _, by rw [← HSF.out]; rfl, ?_, hkw⟩
    rw [← HSF.out]
    exact ⟨bl, Fl1, Fs, fun k hk hs => g1 k hk (f3 k hs), hlk, ⟨bt, own, At, ct, Ae, ce, hw.st, hw.tm, hw.tx, hw.er, hw.fb, hw.lt, htab, fun e => hntF (hFw _ (f2 _ (f3 _ e)))⟩, fun k hk => hFw k (f1 k hk), fun k hk => hFw k (f2 k (f3 k hk)), Gr.lt H.out.lt hkw.size, hntF⟩
end Go.Proofs.YtamfjgioajmnpaaGreatDoor
namespace Go.Proofs.YtamfjgioajmnpaaGreatDoor
open Go.RowKit
set_option linter.unusedVariables false
set_option linter.unusedSimpArgs false

theorem cmd245 : cmdOf 245 = some 2 := by kernel_rfl
theorem form_host {T : TmT} (hX : T.X = newS 2) : THostDo T { T with X := scr1, lock := 0, aid := 96, mode := 0, V := bumpV (bumpV T.V 3 1) 2 0 } formL := by
  intro W bt Ft A c G htab htm hb hG hnt
  have hlen : formL.length = 17 := rfl
  have hsl := hb.sl (by rw [hlen]; omega)
  obtain ⟨ga, off, rfl, zg⟩ := hsl.form (by rw [hlen]; omega)
  have hgG : G ga := hb.in_ ga rfl
  have hgF := hG ga hgG
  have hcap := hb.cap
  have hmx := hb.mx
  rw [hlen] at hsl hcap ⊢
  refine thost_is (cm := 2) (pc := (formO.length : Int)) htm scr1_ok (.inr (.inl rfl)) ?_
  intro W1 p g hk1 hs1 hp hg
  have hs1' := hsl.keptE hk1 (fun q hq e => by injection hq with hq; subst hq; exact hgF e)
  have hX2 : T.X.Ok := by rw [hX]; exact newS_ok (by decide) (by decide)
  have hgp : ga ≠ p := fun e => hgF (e ▸ hp)
  have hgz : ga < W1.heap.size := hs1'.lt rfl
  refine (wrun_is (off := off) (cm := 2) (pc := (formO.length : Int)) (i := 2) (c0 := 245) (ctl := 195) (tn := formT.n) (Y := scr1) (rs := true) (al := false) (rt := true) hs1 hX2 (htab.keep hk1 hnt) (hs1'.cell (i := 0) (by omega)) (by omega) (hs1'.cell (i := 1) (by omega)) (by omega) hcap hmx cmd245 (.inl rfl) rfl (by decide) (by decide) (by decide) ?_).mono ?_
  · intro w1 hu1 W2 g2 hg2 hk2 hs2
    have hsl2 := ((hs1'.up hu1).keptE hk2 (fun q hq e => by injection hq with hq; subst hq; exact hgp e)).cut (k := 2) (by omega)
    rw [if_neg (show ¬ c = 2 by omega)] at hsl2
    have hz1 := hu1.size
    rw [hX] at hs2
    have ok2 : ((newS 2).clear false).Ok := by
      have := newS_ok (m := 2) (by decide) (by decide)
      exact this
    have hord := orders_is (dop := dop1) (T := formT) hs2 ok2 (m := 0) (by decide) (by decide) hsl2 (fun q hq e => by
      have hq : some (Addr.add ⟨ga, off, none⟩ 2) = some q := hq
      injection hq with hq
      subst hq
      rcases e with e | e
      · exact hgp e
      · have e' : ga = g2 := e
        omega) (by rw [ords_form]) (do1_ok (by rw [ords_form]; exact form_plain)) (by rw [ords_form]; rfl)
    rw [ords_form] at hord
    refine hord.mono ?_
    rintro e w' ⟨he, h1, h2, h3⟩
    exact ⟨he, h1, h3⟩
  · rintro e w' ⟨he, g', hg', hs', hk'⟩
    exact ⟨he, g', .inr hg', hs', hk'.mono (fun k hk => .inl hk)⟩
theorem a_key {T : TmT} (hX : T.X = scr1) (hk : T.k = 37) (hl : T.lock = 0) (hi : T.ins = false) : TKeyDo T { T with X := scr2, V := bumpV T.V 1 1, lock := 0, ins := false } 1 65 0 [] := by
  intro W bt Ft htm
  have h := tkey_char (n := 0) (c := 193) (s := 65) htm hl hi (by rw [hX, hk]; exact form_char)
  rw [hX] at h
  refine h.mono ?_
  rintro e w' ⟨rfl, h1, h2⟩
  exact ⟨none, 0, rfl, h1, Bt.none_, h2⟩
def sentL : List Int := [125, 64, 196, 17, 64, 195, 193]
theorem enter_key {T : TmT} (hX : T.X = scr2) (hl : T.lock = 0) (hm : T.mode = 0) : TKeyDo T { T with lock := 1, ins := false, aid := 125, V := bumpV (bumpV T.V 1 1) 2 1 } 19 0 0 sentL := by
  obtain ⟨X, k, lock, ins, aid, V, mode⟩ := T
  simp only at hX hl hm
  subst hX
  intro W bt Ft htm
  have h := tkey_enter (s := 0) (n := 0) htm hl hm mod_ok
  simp only at h
  rw [show modB scr2 125 = sentL from scr2_mod] at h
  refine h.mono ?_
  rintro e w' ⟨A, c, rfl, h1, h2, h3⟩
  exact ⟨A, c, rfl, h1, h2, h3⟩
end Go.Proofs.YtamfjgioajmnpaaGreatDoor
