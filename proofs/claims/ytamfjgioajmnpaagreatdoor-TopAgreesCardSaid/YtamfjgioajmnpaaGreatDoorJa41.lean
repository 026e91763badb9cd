/-
The link's Take as an iterator: what comes is fed to the reader, each event is taken, what is told is yielded. Conditions: each event is one that TkOk allows.
-/
import Derived.Test.YtamfjgioajmnpaaGreatDoorJa40
namespace Go.Proofs.YtamfjgioajmnpaaGreatDoor
open Go.RowKit
set_option linter.unusedVariables false
set_option linter.unusedSimpArgs false

section plain
variable {ρ : Type}
def stepLk (bd : LkT → ρ → LEv → LkT × ρ) (s : LkT × ρ) (e : EvT) : LkT × ρ :=
  match (takeLk s.1 e).2 with
  | none => ((takeLk s.1 e).1, s.2)
  | some x => bd (takeLk s.1 e).1 s.2 x
/-- a link and the rest lie there, apart, in blocks of F -/
def JT (Rest : ρ → (Nat → Prop) → World → Prop) (b : Nat) (L : LkT) (r : ρ) (Fl Fr : Nat → Prop) (W : World) : Prop := (∀ k, Fl k → ¬ Fr k) ∧ LkAt W b Fl L ∧ Rest r Fr W
def J1T (Rest : ρ → (Nat → Prop) → World → Prop) (OkB : LkT → ρ → LEv → Prop) (b : Nat) (s : LkT × ρ) (x : LEvV) (F : Nat → Prop) (W : World) : Prop :=
  ∃ Fl Fr, (∀ k, Fl k → F k) ∧ (∀ k, Fr k → F k) ∧ JT Rest b s.1 s.2 Fl Fr W ∧ Bt W (fun g => ¬ Fr g) x.A x.ev.data.length x.c x.ev.data ∧ OkB s.1 s.2 x.ev
def J2T (Rest : ρ → (Nat → Prop) → World → Prop) (bd : LkT → ρ → LEv → LkT × ρ) (b : Nat) (s : LkT × ρ) (x : LEvV) (F : Nat → Prop) (W : World) : Prop :=
  ∃ Fl Fr, (∀ k, Fl k → F k) ∧ (∀ k, Fr k → F k) ∧ JT Rest b (bd s.1 s.2 x.ev).1 (bd s.1 s.2 x.ev).2 Fl Fr W
def JeT (Rest : ρ → (Nat → Prop) → World → Prop) (b : Nat) (fin : LkT × ρ) (s : LkT × ρ) (F : Nat → Prop) (W : World) : Prop :=
  s = fin ∧ ∃ Fl Fr, (∀ k, Fl k → F k) ∧ (∀ k, Fr k → F k) ∧ JT Rest b s.1 s.2 Fl Fr W
end plain
/-- an event's cells -/
theorem EvL.cells {w : World} {F : Nat → Prop} {A : Option Addr} {c j : Nat} {xs : List EvV} {x : EvV} (h : EvL w F A c xs) (hx : xs[j]? = some x) :
    ∃ g, A = some ⟨g, 0, none⟩ ∧ g < w.heap.size ∧ ∀ i v, x.cells[i]? = some v → w.cell? ⟨g, j * 6 + i, none⟩ = some v := by
  have hj : j < xs.length := (List.getElem?_eq_some_iff.1 hx).1
  obtain ⟨b, off, e, hb, hc⟩ := h.row.reads.2 (by omega)
  have hoff : off = 0 := by
    rcases h.row.own.2 with ⟨e1, e2⟩ | ⟨g, cap, cur, e1, _⟩
    · omega
    · rw [e] at e1
      injection e1 with e1 _ _
      injection e1 with e1
      injection e1 with _ e2 _
  subst hoff
  refine ⟨b, e, hb, fun i v hv => ?_⟩
  have hi : i < 6 := by
    have := (List.getElem?_eq_some_iff.1 hv).1
    simpa [EvV.cells] using this
  have hget : (xs.flatMap EvV.cells)[j * 6 + i]? = some v := by
    have key : ∀ (ys : List EvV) (j : Nat), ys[j]? = some x → (ys.flatMap EvV.cells)[j * 6 + i]? = some v := by
      intro ys
      induction ys with
      | nil => intro j h; simp at h
      | cons y ys ih =>
        intro j h
        cases j with
        | zero =>
          simp only [List.getElem?_cons_zero, Option.some.injEq] at h
          subst h
          rw [List.flatMap_cons, List.getElem?_append_left (by simp [EvV.cells]; omega)]
          simpa using hv
        | succ j =>
          rw [List.getElem?_cons_succ] at h
          rw [List.flatMap_cons, List.getElem?_append_right (by simp [EvV.cells]; omega)]
          have := ih j h
          rw [show (j + 1) * 6 + i - y.cells.length = j * 6 + i by simp [EvV.cells]; omega]
          exact this
    exact key xs j hx
  have := hc (j * 6 + i) v hget
  rwa [Nat.zero_add] at this
theorem enters_take : ∀ args w, (callFunc 101 args).run Tryz.prog w = .ok (.enter 101 args) w := enters_of Tryz.func101 (by kernel_rfl) rfl
theorem LkI.narrow {w : World} {b br bo be bm co : Nat} {F G : Nat → Prop} {own : Nat → Nat} {L : LkT} {Ao : Option Addr} (h : LkI w b F own L br bo be bm Ao co) (hG : ∀ k, G k → own k = 1) (hr : RdAt w br (Cp (fun k => F k ∧ ¬ G k) own 1) L.rd) : LkI w b (fun k => F k ∧ ¬ G k) own L br bo be bm Ao co := by
  have key : ∀ i, i ≠ 1 → ∀ k, Cp F own i k → Cp (fun k => F k ∧ ¬ G k) own i k := fun i hi k hk => ⟨⟨hk.1, fun hg => hi (hk.2.symm.trans (hG k hg))⟩, hk.2⟩
  exact ⟨h.st, key 0 (by decide) _ h.fb, hr, h.ma, key 2 (by decide) _ h.fo, h.ok, h.en.wide (key 3 (by decide)) (fun k hk => h.lt k hk.1.1), h.mkr.wide (key 4 (by decide)) (fun k hk => h.lt k hk.1.1), h.out.mono (key 0 (by decide)), h.bo, fun k hk => h.lt k hk.1⟩
/-- how the loop stands -/
structure LpI {ρ : Type} (Rest : ρ → (Nat → Prop) → World → Prop) (b : Nat) (F0 G1 : Nat → Prop) (A1 : Option Addr) (c1 : Nat) (xs : List EvV) (W : World) (s : LkT × ρ) (wr : World) : Prop where
  kp : Keep F0 W wr
  jt : ∃ Fl Fr, (∀ k, Fl k → Gr F0 W wr k) ∧ (∀ k, Fr k → Gr F0 W wr k) ∧ JT Rest b s.1 s.2 Fl Fr wr ∧ ∀ k, G1 k → ¬ Fl k ∧ ¬ Fr k
  ev : EvL wr G1 A1 c1 xs
  g1 : ∀ k, G1 k → k < wr.heap.size
/-- a step upon the link alone -/
theorem LpI.next2 {ρ : Type} {Rest : ρ → (Nat → Prop) → World → Prop} {b c1 : Nat} {F0 G1 Fl Fr : Nat → Prop} {A1 : Option Addr} {xs : List EvV} {W wr wa w2 w3 : World} {L L2 : LkT} {r : ρ}
    (hRk : ∀ r F W W' (E : Nat → Prop), Rest r F W → Keep E W W' → (∀ k, F k → ¬ E k) → Rest r F W') (hRl : ∀ r F W, Rest r F W → ∀ k, F k → k < W.heap.size)
    (hkp : Keep F0 W wr) (hFl : ∀ k, Fl k → Gr F0 W wr k) (hFr : ∀ k, Fr k → Gr F0 W wr k) (hJ : JT Rest b L r Fl Fr wr) (hG : ∀ k, G1 k → ¬ Fl k ∧ ¬ Fr k) (hev : EvL wr G1 A1 c1 xs) (hg1 : ∀ k, G1 k → k < wr.heap.size)
    (u : Up wr wa) (hl2 : LkAt w2 b (Gr Fl wa w2) L2) (hk2 : Keep Fl wa w2) (u3 : Up w2 w3) : Keep F0 W w3 ∧ (∀ k, Gr Fl wa w2 k → Gr F0 W w3 k) ∧ (∀ k, Fr k → Gr F0 W w3 k) ∧ JT Rest b L2 r (Gr Fl wa w2) Fr w3 ∧ (∀ k, G1 k → ¬ Gr Fl wa w2 k ∧ ¬ Fr k) ∧ EvL w3 G1 A1 c1 xs ∧ ∀ k, G1 k → k < w3.heap.size := by
  have z0 := hkp.size
  have z1 := u.size
  have z2 := hk2.size
  have z3 := u3.size
  have hk : Keep Fl wr w3 := ((Keep.of_up u).trans hk2).up u3
  have hkF : Keep F0 W w3 := hkp.gr (hk.mono hFl)
  refine ⟨hkF, fun k hk => ?_, fun k hk => (hFr k hk).imp id (fun h => ⟨h.1, by omega⟩), ⟨fun k hk hr => ?_, hl2.up u3, hRk _ _ _ _ _ hJ.2.2 hk (fun k h1 h2 => hJ.1 k h2 h1)⟩, fun k hk => ⟨fun h => ?_, (hG k hk).2⟩, hev.keep hk (fun g hg h => (hG g hg).1 h), fun k hk => by have := hg1 k hk; omega⟩
  · rcases hk with h | h
    · exact (hFl k h).imp id (fun h => ⟨h.1, by omega⟩)
    · exact .inr ⟨by omega, by omega⟩
  · rcases hk with h | h
    · exact hJ.1 k h hr
    · have := hRl _ _ _ hJ.2.2 k hr; omega
  · rcases h with h | h
    · exact (hG k hk).1 h
    · have := hg1 k hk; omega
theorem LpI.next {ρ : Type} {Rest : ρ → (Nat → Prop) → World → Prop} {b c1 : Nat} {F0 G1 Fl Fr : Nat → Prop} {A1 : Option Addr} {xs : List EvV} {W wr wa w2 w3 : World} {L L2 : LkT} {r : ρ}
    (hRk : ∀ r F W W' (E : Nat → Prop), Rest r F W → Keep E W W' → (∀ k, F k → ¬ E k) → Rest r F W') (hRl : ∀ r F W, Rest r F W → ∀ k, F k → k < W.heap.size)
    (hkp : Keep F0 W wr) (hFl : ∀ k, Fl k → Gr F0 W wr k) (hFr : ∀ k, Fr k → Gr F0 W wr k) (hJ : JT Rest b L r Fl Fr wr) (hG : ∀ k, G1 k → ¬ Fl k ∧ ¬ Fr k) (hev : EvL wr G1 A1 c1 xs) (hg1 : ∀ k, G1 k → k < wr.heap.size)
    (u : Up wr wa) (hl2 : LkAt w2 b (Gr Fl wa w2) L2) (hk2 : Keep Fl wa w2) (u3 : Up w2 w3) : LpI Rest b F0 G1 A1 c1 xs W (L2, r) w3 := by
  obtain ⟨a1, a2, a3, a4, a5, a6, a7⟩ := LpI.next2 hRk hRl hkp hFl hFr hJ hG hev hg1 u hl2 hk2 u3
  exact ⟨a1, ⟨_, _, a2, a3, a4, a5⟩, a6, a7⟩
/-- behind a yield -/
theorem LpI.back {ρ : Type} {Rest : ρ → (Nat → Prop) → World → Prop} {b c1 : Nat} {F0 G1 Fl Fr F2 Fl2 Fr2 : Nat → Prop} {A1 : Option Addr} {xs : List EvV} {W w3 w4 : World} {s2 : LkT × ρ}
    (hkp : Keep F0 W w3) (hFl : ∀ k, Fl k → Gr F0 W w3 k) (hFr : ∀ k, Fr k → Gr F0 W w3 k) (hG : ∀ k, G1 k → ¬ Fl k ∧ ¬ Fr k) (hev : EvL w3 G1 A1 c1 xs) (hg1 : ∀ k, G1 k → k < w3.heap.size)
    (hk : Keep (fun k => Fl k ∨ Fr k) w3 w4) (h2 : ∀ k, F2 k → Gr (fun k => Fl k ∨ Fr k) w3 w4 k) (h3 : ∀ k, Fl2 k → F2 k) (h4 : ∀ k, Fr2 k → F2 k) (hJ : JT Rest b s2.1 s2.2 Fl2 Fr2 w4) : LpI Rest b F0 G1 A1 c1 xs W s2 w4 := by
  have z0 := hkp.size
  have z1 := hk.size
  have hkF : Keep F0 W w4 := hkp.gr (hk.mono fun k hk => hk.elim (hFl k) (hFr k))
  have up : ∀ k, F2 k → Gr F0 W w4 k := fun k hk => by
    rcases h2 k hk with h | h
    · exact (h.elim (hFl k) (hFr k)).imp id (fun h => ⟨h.1, by omega⟩)
    · exact .inr ⟨by omega, h.2⟩
  have no : ∀ k, G1 k → ¬ F2 k := fun k hg h => by
    rcases h2 k h with h | h
    · exact h.elim (hG k hg).1 (hG k hg).2
    · have := hg1 k hg; omega
  exact ⟨hkF, ⟨Fl2, Fr2, fun k hk => up k (h3 k hk), fun k hk => up k (h4 k hk), hJ, fun k hk => ⟨fun h => no k hk (h3 k h), fun h => no k hk (h4 k h)⟩⟩, hev.keep hk (fun g hg h => h.elim (hG g hg).1 (hG g hg).2), fun k hk => by have := hg1 k hk; omega⟩
set_option maxRecDepth 100000 in
set_option maxHeartbeats 12800000 in
theorem take_it {ρ : Type} {Rest : ρ → (Nat → Prop) → World → Prop} {bd : LkT → ρ → LEv → LkT × ρ} {OkB : LkT → ρ → LEv → Prop} {b b1 b2 n c : Nat} {A : Option Addr} {p : List Int} {Fl0 Fr0 Gp : Nat → Prop} {L0 : LkT} {r0 : ρ} {w : World}
    (hRk : ∀ r F W W' (E : Nat → Prop), Rest r F W → Keep E W W' → (∀ k, F k → ¬ E k) → Rest r F W') (hRl : ∀ r F W, Rest r F W → ∀ k, F k → k < W.heap.size)
    (h0 : JT Rest b L0 r0 Fl0 Fr0 w) (hc1 : w.cell? ⟨b1, 0, none⟩ = some (.pointer (some ⟨b, 0, none⟩))) (hc2 : w.cell? ⟨b2, 0, none⟩ = some (.slice A n c)) (hp : Bt w Gp A n c p) (hGp : ∀ k, Gp k → ¬ Fl0 k) (hb1 : ¬ Fl0 b1 ∧ ¬ Fr0 b1) (hb2 : ¬ Fl0 b2 ∧ ¬ Fr0 b2)
    (hn : n ≤ 40000) (hd : L0.rd.data.length ≤ 30000) (ho : L0.rd.out.length ≤ 30000) (hsb : L0.rd.sub.length ≤ 256) (hTk : ∀ j e, (feedT L0.rd p).out[j]? = some e → TkOk ((((feedT L0.rd p).out.take j).foldl (stepLk bd) ({ L0 with rd := { feedT L0.rd p with out := [] } }, r0)).1) e)
    (hBd : ∀ j e y, (feedT L0.rd p).out[j]? = some e → (takeLk (((feedT L0.rd p).out.take j).foldl (stepLk bd) ({ L0 with rd := { feedT L0.rd p with out := [] } }, r0)).1 e).2 = some y → OkB (takeLk (((feedT L0.rd p).out.take j).foldl (stepLk bd) ({ L0 with rd := { feedT L0.rd p with out := [] } }, r0)).1 e).1 (((feedT L0.rd p).out.take j).foldl (stepLk bd) ({ L0 with rd := { feedT L0.rd p with out := [] } }, r0)).2 y) :
    ItS Tryz.prog 101 #[.pointer (some ⟨b1, 0, none⟩), .pointer (some ⟨b2, 0, none⟩)] (fun x : LEvV => #[x.val]) (fun k => Fl0 k ∨ Fr0 k) (J1T Rest OkB b) (J2T Rest bd b) (JeT Rest b ((feedT L0.rd p).out.foldl (stepLk bd) ({ L0 with rd := { feedT L0.rd p with out := [] } }, r0))) w := by
  obtain ⟨R1, hR1⟩ : ∃ R1, feedT L0.rd p = R1 := ⟨_, rfl⟩
  rw [hR1] at hTk hBd ⊢
  obtain ⟨S0, hS0⟩ : ∃ S0 : LkT × ρ, ({ L0 with rd := { R1 with out := [] } }, r0) = S0 := ⟨_, rfl⟩
  rw [hS0] at hTk hBd ⊢
  have HS0 := Lib.hid hS0
  have hmb : R1.out.length ≤ 200000 := by
    have e1 := flushT_out (p.foldl takeT L0.rd)
    have e2 := foldT_bd p L0.rd
    have e3 := hp.len
    rw [← hR1]
    unfold feedT
    omega
  have HMB := Lib.hid hmb
  clear hmb
  intro k l W hu hY
  have z1 := cell_lt hc1
  have z2 := cell_lt hc2
  have q1 : W.cell? ⟨b1, 0, none⟩ = some (.pointer (some ⟨b, 0, none⟩)) := ((hu.at_ b1 z1).1 0).trans hc1
  have q2 : W.cell? ⟨b2, 0, none⟩ = some (.slice A n c) := ((hu.at_ b2 z2).1 0).trans hc2
  have hlt0 : ∀ k, (Fl0 k ∨ Fr0 k) → k < W.heap.size := fun k hk => by
    have := hu.size
    rcases hk with hk | hk
    · have := h0.2.1.lt k hk; omega
    · have := hRl _ _ _ h0.2.2 k hk; omega
  have hL : LkAt W b Fl0 L0 := h0.2.1.up hu
  have hR : Rest r0 Fr0 W := hRk _ _ _ _ (fun _ => False) h0.2.2 (Keep.of_up hu) (fun _ _ h => h)
  have hpW := hp.up hu
  obtain ⟨own, br, bo, be, bm, Ao, co, hi⟩ := hL
  have q0 := hi.st.cell 0 (v := .pointer (some ⟨br, 0, none⟩)) rfl
  have zb := hi.st.lt
  have zz1 := cell_lt q1
  have zz2 := cell_lt q2
  have HFD := Lib.hid (feed_is (w := W.drew) (hi.rd.keep (E := fun _ => False) ((Keep.refl _ W).drew) (fun _ _ h => h)) (hpW.up ((Up.refl W).drew)) (fun k hk h => hGp k hk h.1) hn hd ho hsb)
  rw [hR1] at HFD
  clear hR1 hS0
  have HI := Lib.hid hi
  have HR := Lib.hid hR
  have HY := Lib.hid hY
  have HTK := Lib.hid hTk
  have HBD := Lib.hid hBd
  have HRK := Lib.hid hRk
  have HRL := Lib.hid hRl
  have HLT0 := Lib.hid hlt0
  have HDJ := Lib.hid h0.1
  have HB12 := Lib.hid (And.intro hb1 hb2)
  clear hi hR hY hTk hBd hRk hRl hlt0 h0 hb1 hb2 hu hp hGp hpW hc1 hc2 hd ho hsb hn
  refine callsIn_of_wp Tryz.func101 rfl trivial ?_ rfl
  simp only [Tryz.ntmps101, List.size_toArray, List.length_cons, List.length_nil, Nat.reduceAdd, Nat.reduceSub, Array.replicate_succ, Array.replicate_zero, List.push_toArray, List.append_toArray, List.nil_append, List.cons_append]
  gi_wp2
  refine wpIn_wide.2 ?_
  go_region_held_law (fun w' => w'.cell? ⟨b1, 0, none⟩ = some (.pointer (some ⟨b, 0, none⟩)) ∧ w'.cell? ⟨b, 0, none⟩ = some (.pointer (some ⟨br, 0, none⟩)) ∧ w'.cell? ⟨b2, 0, none⟩ = some (.slice A n c)) (first | exact ⟨q1, q0, q2⟩ | exact ⟨s1, s0, s2⟩ | go_keep) ((go_simp; go_at_call 102; refine HFD.out.mono ?_; rintro e w1 ⟨hk1, A1, c1, xs, F1, G1, rfl, hxb, hev, hrd, hF1, hG1, hFG⟩; obtain ⟨kc, -⟩ := hk1.at_ b1 (show b1 < W.drew.heap.size from zz1) (fun e => HB12.out.1.1 e.1); obtain ⟨kx, -⟩ := hk1.at_ b2 (show b2 < W.drew.heap.size from zz2) (fun e => HB12.out.2.1 e.1); obtain ⟨ky, -⟩ := hk1.at_ b (show b < W.drew.heap.size from zb) (fun e => (by have e1 := e.2; have e2 := HI.out.fb.2; rw [e2] at e1; cases e1)); have s1 := (kc 0).trans q1; have s2 := (kx 0).trans q2; have s0 := (ky 0).trans q0; have HK1 := Lib.hid hk1; have HXB := Lib.hid hxb; have HEV := Lib.hid hev; have HRD := Lib.hid hrd; have HF1 := Lib.hid hF1; have HG1 := Lib.hid hG1; have HFG := Lib.hid hFG; clear hk1 hxb hev hrd hF1 hG1 hFG kc kx ky))
  have hk1 : Keep (Cp Fl0 own 1) W w1 := ((Keep.refl _ W).drew).trans HK1.out
  have z1w : W.heap.size ≤ w1.heap.size := hk1.size
  obtain ⟨hp1, hpk⟩ := HI.out.put_rd (w' := w1) hk1 HRD.out HF1.out
  have hFl0 : ∀ k, Fl0 k → k < W.heap.size := fun k hk => HLT0.out k (.inl hk)
  have hnar := hp1.narrow (G := G1) (fun k hk => (cp_new hFl0 k (HG1.out k hk)).2) (HRD.out.wide (fun k hk => ⟨⟨(cp_new hFl0 k (HF1.out k hk)).1, HFG.out k hk⟩, (cp_new hFl0 k (HF1.out k hk)).2⟩) (fun k hk => hp1.lt k hk.1.1))
  have hlp : LpI Rest b (fun k => Fl0 k ∨ Fr0 k) G1 A1 c1 xs W S0 w1 := by
    have hkp : Keep (fun k => Fl0 k ∨ Fr0 k) W w1 := hpk.mono (fun k hk => .inl hk)
    refine ⟨hkp, ⟨fun k => Gr Fl0 W w1 k ∧ ¬ G1 k, Fr0, fun k hk => hk.1.imp .inl id, fun k hk => .inl (.inr hk), ⟨fun k hk hr => ?_, ?_, ?_⟩, fun k hk => ⟨fun h => h.2 hk, fun hr => ?_⟩⟩, HEV.out, fun k hk => ?_⟩
    · rcases hk.1 with h | h
      · exact HDJ.out k h hr
      · have := HLT0.out k (.inr hr); omega
    · rw [← HS0.out]; exact ⟨_, _, _, _, _, _, _, hnar⟩
    · rw [← HS0.out]; exact HRK.out _ _ _ _ _ HR.out hpk (fun k hk h => HDJ.out k h hk)
    · rcases HG1.out k hk with h | h
      · exact HDJ.out k h.1 hr
      · have h1 := HLT0.out k (.inr hr); have h2 : W.heap.size ≤ k := h.1; omega
    · rcases HG1.out k hk with h | h
      · have := hFl0 k h.1; omega
      · exact h.2
  have HLP := Lib.hid hlp
  have hgoal : (R1.out.foldl (stepLk bd) S0) = ((xs.map EvV.bare).foldl (stepLk bd) S0) := by rw [HXB.out]
  have HGO := Lib.hid hgoal
  have hxl : xs.length = R1.out.length := by rw [← HXB.out, List.length_map]
  have HXL := Lib.hid hxl
  obtain ⟨m, hm⟩ : ∃ m, xs.length = m := ⟨_, rfl⟩
  have hmi : (m : Int) ≤ 200000 := by have := HMB.out; omega
  have HM := Lib.hid hm
  simp only [hm]
  clear hk1 hp1 hpk hFl0 hnar hlp hgoal hxl hm z1w s1 s2 s0
  gi_wp2
  gi_loopw [17] (fun q wr => ∃ j : Nat, q = .int .i64 (j : Int) ∧ j ≤ m ∧ LpI Rest b (fun k => Fl0 k ∨ Fr0 k) G1 A1 c1 xs W ((R1.out.take j).foldl (stepLk bd) S0) wr) (fun q _ => m - (intOf q).toNat)
  case atStart => exact ⟨0, rfl, Nat.zero_le _, by simpa using HLP.out⟩
  case round =>
    obtain ⟨j, rfl, hj, hlp⟩ := hrel
    by_cases hlt : j < m
    · obtain ⟨x, hx⟩ : ∃ x, xs[j]? = some x := ⟨_, List.getElem?_eq_getElem (by have := HM.out; omega)⟩
      have hxe : R1.out[j]? = some x.bare := by rw [← HXB.out, List.getElem?_map, hx]; rfl
      have htk := HTK.out j _ hxe
      have hbd := fun y => HBD.out j _ y hxe
      have hsn : (R1.out.take (j + 1)).foldl (stepLk bd) S0 = stepLk bd ((R1.out.take j).foldl (stepLk bd) S0) x.bare := by
        rw [List.take_succ_eq_append_getElem (List.getElem?_eq_some_iff.1 hxe).1, List.foldl_append, (List.getElem?_eq_some_iff.1 hxe).2]
        rfl
      obtain ⟨s, hs⟩ : ∃ s, (R1.out.take j).foldl (stepLk bd) S0 = s := ⟨_, rfl⟩
      rw [hs] at htk hbd hsn hlp
      obtain ⟨Fl, Fr, hFl, hFr, hJ, hG⟩ := hlp.jt
      have q1r : wr.cell? ⟨b1, 0, none⟩ = some (.pointer (some ⟨b, 0, none⟩)) := ((hlp.kp.at_ b1 zz1 (fun h => h.elim HB12.out.1.1 HB12.out.1.2)).1 0).trans q1
      have zr1 := cell_lt q1r
      obtain ⟨g, rfl, hg, hcl⟩ := hlp.ev.cells hx
      have x0 : wr.cell? ⟨g, j * 6, none⟩ = some (.int .i64 x.kind) := hcl 0 (.int .i64 x.kind) rfl
      have x1 : wr.cell? ⟨g, j * 6 + 1, none⟩ = some (.int .u8 x.verb) := hcl 1 (.int .u8 x.verb) rfl
      have x2 : wr.cell? ⟨g, j * 6 + 2, none⟩ = some (.int .u8 x.opt) := hcl 2 (.int .u8 x.opt) rfl
      have x3 : wr.cell? ⟨g, j * 6 + 3, none⟩ = some (.slice x.A x.data.length x.c) := hcl 3 (.slice x.A x.data.length x.c) rfl
      have x4 : wr.cell? ⟨g, j * 6 + 4, none⟩ = some (.bool x.long) := hcl 4 (.bool x.long) rfl
      have x5 : wr.cell? ⟨g, j * 6 + 5, none⟩ = some (.bool x.broken) := hcl 5 (.bool x.broken) rfl
      have hta := take_any (hJ.2.1.up ((Up.refl wr).alloc (.cells #[.int .i64 x.kind, .int .u8 x.verb, .int .u8 x.opt, .slice x.A x.data.length x.c, .bool x.long, .bool x.broken] 165))) ((hlp.ev.good x (List.mem_of_getElem? hx)).up ((Up.refl wr).alloc _)) (fun k hk => (hG k hk).1) htk
      have HLP := Lib.hid hlp
      have HJ := Lib.hid hJ
      have HGG := Lib.hid hG
      have HFL := Lib.hid hFl
      have HFR := Lib.hid hFr
      have HSN := Lib.hid hsn
      have HS := Lib.hid hs
      have HBB := Lib.hid hbd
      have hbd' := hbd
      have hjm : (j : Int) < (m : Int) := by omega
      clear hlp hJ hG hFl hFr hsn hs hbd htk hx hxe hcl
      obtain ⟨L2, hL2⟩ : ∃ L2, (takeLk s.1 x.bare).1 = L2 := ⟨_, rfl⟩
      rw [hL2] at hta
      have HL2 := Lib.hid hL2
      clear hL2
      cases ho : (takeLk s.1 x.bare).2 with
      | none =>
        rw [ho] at hta
        have HTA := Lib.hid hta
        have HOO := Lib.hid ho
        clear hta ho
        gi_wp2_with (refine ⟨trivial, (fun h => by simp [Fence.wide] at h), ?_⟩; gi_at_call 103; refine (callsIn_wide.2 HTA.out).mono ?_; rintro e w2 ⟨⟨y, rfl, -⟩, hl2, hk2⟩; simp only [LEvV.val, Option.isSome_none]; have HLK2 := Lib.hid hl2; have HK2 := Lib.hid hk2; clear hl2 hk2)
        refine ⟨fun _ h => (by cases h), ?_⟩
        gi_wp2
        go_roundw
        case rel =>
          refine ⟨j + 1, by go_num, by omega, ?_⟩
          rw [HSN.out, stepLk, HOO.out, HL2.out]
          exact LpI.next HRK.out HRL.out HLP.out.kp HFL.out HFR.out HJ.out HGG.out HLP.out.ev HLP.out.g1 ((Up.refl wr).alloc _) HLK2.out HK2.out (by (repeat (first | with_reducible exact Up.refl _ | with_reducible refine Up.alloc ?_ _ | with_reducible refine Up.drew ?_ | with_reducible refine Up.drewN ?_ _ | with_reducible refine Up.setCell ?_ (by (try simp) <;> omega) _ | with_reducible assumption | with_reducible refine Up.trans ?_ (by assumption))))
        case measure => simp [intOf]; omega
      | some y0 =>
        rw [ho] at hta
        have HTA := Lib.hid hta
        have HOO := Lib.hid ho
        have HB0 := Lib.hid (hbd' y0 ho)
        clear hta ho
        gi_wp2_with (refine ⟨trivial, (fun h => by simp [Fence.wide] at h), ?_⟩; gi_at_call 103; refine (callsIn_wide.2 HTA.out).mono ?_; rintro e w2 ⟨⟨y, rfl, hy⟩, hl2, hk2⟩; simp only [LEvV.val, Option.isSome_some]; have HLK2 := Lib.hid hl2; have HK2 := Lib.hid hk2; have HYY := Lib.hid (hy y0 rfl); clear hl2 hk2 hy)
        obtain ⟨W3, hW3⟩ : ∃ W3, w2.alloc (.cells #[.int .i64 y.ev.kind, .slice y.A y.ev.data.length y.c, .int .u8 y.ev.h1, .int .u8 y.ev.h2, .int .u8 y.ev.h3, .int .u16 y.ev.h4, .bool y.ev.headed] 132) = W3 := ⟨_, rfl⟩
        have hu3 : Up w2 W3 := by rw [← hW3]; exact (Up.refl w2).alloc _
        obtain ⟨a1, a2, a3, a4, a5, a6, a7⟩ := LpI.next2 HRK.out HRL.out HLP.out.kp HFL.out HFR.out HJ.out HGG.out HLP.out.ev HLP.out.g1 ((Up.refl wr).alloc _) HLK2.out HK2.out hu3
        obtain ⟨fn, tmps, assign, body, hyy, hR⟩ := HY.out (L2, s.2) y (fun k => Gr Fl _ w2 k ∨ Fr k) W3 a1 (fun k hk => hk.elim (a2 k) (a3 k)) ⟨_, Fr, fun k hk => .inl hk, fun k hk => .inr hk, a4, by
          have hb := HYY.out.2
          rw [← HYY.out.1] at hb
          exact (hb.up hu3).mono fun g hg hr => hg.elim (fun h => HJ.out.1 g h hr) (fun h => (HGG.out g h).2 hr), by
          have := HB0.out
          rw [HL2.out, ← HYY.out.1] at this
          exact this⟩
        have A1' := Lib.hid a1
        have A2' := Lib.hid a2
        have A3' := Lib.hid a3
        have A5' := Lib.hid a5
        have A6' := Lib.hid a6
        have A7' := Lib.hid a7
        have HR3 := Lib.hid hR
        rw [hW3]
        clear a1 a2 a3 a4 a5 a6 a7 hR hu3 hW3
        simp only [LEvV.val] at hyy
        rw [hyy]
        refine ⟨fun h => by simp [Fence.wide] at h, ?_⟩
        refine HR3.out.mono ?_
        rintro e W4 ⟨rfl, hk4, F2, hF2, Fl2, Fr2, hl2, hr2, hj2⟩
        have HK4 := Lib.hid hk4
        have HF2 := Lib.hid hF2
        have HL2' := Lib.hid hl2
        have HR2' := Lib.hid hr2
        have HJ2 := Lib.hid hj2
        clear hk4 hF2 hl2 hr2 hj2 hyy
        gi_wp2
        go_roundw
        case rel =>
          refine ⟨j + 1, by go_num, by omega, ?_⟩
          rw [HSN.out, stepLk, HOO.out, HL2.out]
          have hb := HJ2.out
          simp only [HYY.out.1] at hb
          exact LpI.back A1'.out A2'.out A3'.out A5'.out A6'.out A7'.out HK4.out HF2.out HL2'.out HR2'.out hb
        case measure => simp [intOf]; omega
    · obtain rfl : j = m := by omega
      have HLE := Lib.hid hlp
      have hfl : R1.out.take j = R1.out := List.take_of_length_le (by have := HXL.out; have := HM.out; omega)
      have HFL2 := Lib.hid hfl
      clear hlp hfl
      gi_wp2
      go_end0
      have hle := HLE.out
      rw [HFL2.out] at hle
      obtain ⟨Fl, Fr, h1, h2, h3, h4⟩ := hle.jt
      exact ⟨⟨_, rfl⟩, hle.kp, _, fun k => Fl k ∨ Fr k, fun k hk => hk.elim (h1 k) (h2 k), rfl, Fl, Fr, fun k hk => .inl hk, fun k hk => .inr hk, h3⟩
end Go.Proofs.YtamfjgioajmnpaaGreatDoor
