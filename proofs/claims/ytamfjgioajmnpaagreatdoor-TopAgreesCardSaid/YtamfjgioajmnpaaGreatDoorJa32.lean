/-
A terminal as it lies in memory: its parts by colours; what a step upon one part leaves of the others. No condition.
A package-level array of structs of a string and two bytes that reads as a listed datum holds these rows, cell for cell. No condition.
What write's Command, of, Byte, Reads and the reference's Command and Byte compute, over the table of names. Condition: the table lies as the row lists it.
-/
import Derived.Test.YtamfjgioajmnpaaGreatDoorJa23
import Derived.Test.YtamfjgioajmnpaaGreatDoorJa25
import Derived.Test.YtamfjgioajmnpaaGreatDoorJa31
import Derived.Test.YtamfjgioajmnpaaGreatDoorJa1
import Derived.Lib.LaidTab
import Derived.Deep.DeepHandedRow
import Derived.Deep.Strs
import Derived.Test.YtamfjgioajmnpaaGreatDoorJa2
import Derived.Test.YtamfjgioajmnpaaGreatDoorJa21
import Derived.Deep.MidRow
namespace Go.Proofs.YtamfjgioajmnpaaGreatDoor
open Go.RowKit
set_option linter.unusedVariables false
set_option linter.unusedSimpArgs false

structure TmT where
  X : Spc
  k : Int
  lock : Int
  ins : Bool
  aid : Int
  V : List Int
  mode : Int
def tmVals (p bb pg tl : Nat) (mode : Int) (Ao : Option Addr) (no co : Nat) : List Value := [.pointer (some ⟨p, 0, none⟩), .pointer (some ⟨bb, 0, none⟩), .pointer (some ⟨pg, 0, none⟩), .pointer (some ⟨tl, 0, none⟩), .int .i64 mode, .slice Ao no co]
structure TmI (w : World) (b p g bb pg tl : Nat) (F : Nat → Prop) (own : Nat → Nat) (T : TmT) : Prop where
  st : St w 195 b (tmVals p bb pg tl T.mode none 0 0)
  kst : St w 260 bb (kbVals p pg T.lock T.ins T.aid)
  sp : SAt w p g T.X
  ok : T.X.Ok
  pa : PgA w pg (Cp F own 3) T.k
  tl : TlAt w tl (Cp F own 4) T.V
  pk : isPage T.k = true
  fb : Cp F own 0 b
  fp : Cp F own 1 p
  fg : Cp F own 1 g
  fbb : Cp F own 2 bb
  lt : ∀ k, F k → k < w.heap.size
def TmAt (w : World) (b : Nat) (F : Nat → Prop) (T : TmT) : Prop := ∃ own p g bb pg tl, TmI w b p g bb pg tl F own T
section
variable {w w' : World} {b p g bb pg tl i : Nat} {F G : Nat → Prop} {own : Nat → Nat} {T : TmT}
theorem cp_no {F : Nat → Prop} {own : Nat → Nat} {i j k : Nat} (h : Cp F own i k) (hn : i ≠ j) : ¬ Cp F own j k := fun e => hn (h.2.symm.trans e.2)
theorem cp_neq {F : Nat → Prop} {own : Nat → Nat} {i j k l : Nat} (h : Cp F own i k) (h' : Cp F own j l) (hn : i ≠ j) : k ≠ l := fun e => cp_no h hn (e ▸ h')
theorem TmI.kb (h : TmI w b p g bb pg tl F own T) : KbC w bb p g pg (Cp F own 3) T.X T.k T.lock T.ins T.aid :=
  ⟨h.kst, h.sp, h.ok, h.pa, cp_neq h.fbb h.fp (by decide), cp_neq h.fbb h.fg (by decide), cp_no h.fbb (by decide), cp_no h.fp (by decide), cp_no h.fg (by decide)⟩
theorem TmI.keep {E : Nat → Prop} (h : TmI w b p g bb pg tl F own T) (hk : Keep E w w') (he : ∀ k, F k → ¬ E k) : TmI w' b p g bb pg tl F own T :=
  ⟨h.st.keep hk (he _ h.fb.1), h.kst.keep hk (he _ h.fbb.1), h.sp.held hk (he _ h.fp.1) (he _ h.fg.1), h.ok, h.pa.keep hk (fun i hi => he i hi.1), h.tl.keep hk (fun i hi => he i hi.1), h.pk, h.fb, h.fp, h.fg, h.fbb, fun k hk' => by have := h.lt k hk'; have := hk.size; omega⟩
theorem TmI.up (h : TmI w b p g bb pg tl F own T) (hu : Up w w') : TmI w' b p g bb pg tl F own T := h.keep (E := fun _ => False) (Keep.of_up hu) (fun _ _ h => h)
theorem TmI.wide (h : TmI w b p g bb pg tl F own T) (hF : ∀ k, F k → G k) (hG : ∀ k, G k → k < w.heap.size) : TmI w b p g bb pg tl G own T :=
  ⟨h.st, h.kst, h.sp, h.ok, h.pa.mono (fun k hk => ⟨hF k hk.1, hk.2⟩) (fun k hk => hG k hk.1), h.tl.mono (fun k hk => ⟨hF k hk.1, hk.2⟩) (fun k hk => hG k hk.1), h.pk, ⟨hF _ h.fb.1, h.fb.2⟩, ⟨hF _ h.fp.1, h.fp.2⟩, ⟨hF _ h.fg.1, h.fg.2⟩, ⟨hF _ h.fbb.1, h.fbb.2⟩, hG⟩
theorem TmAt.keep {E : Nat → Prop} (h : TmAt w b F T) (hk : Keep E w w') (he : ∀ k, F k → ¬ E k) : TmAt w' b F T := by
  obtain ⟨own, p, g, bb, pg, tl, h⟩ := h
  exact ⟨own, p, g, bb, pg, tl, h.keep hk he⟩
theorem TmAt.up (h : TmAt w b F T) (hu : Up w w') : TmAt w' b F T := h.keep (E := fun _ => False) (Keep.of_up hu) (fun _ _ h => h)
theorem TmAt.wide (h : TmAt w b F T) (hF : ∀ k, F k → G k) (hG : ∀ k, G k → k < w.heap.size) : TmAt w b G T := by
  obtain ⟨own, p, g, bb, pg, tl, h⟩ := h
  exact ⟨own, p, g, bb, pg, tl, h.wide hF hG⟩
/-- the parts that a step upon part i leaves -/
theorem TmI.st_move (h : TmI w b p g bb pg tl F own T) (hk : Keep (Cp F own i) w w') (hi : i ≠ 0) : St w' 195 b (tmVals p bb pg tl T.mode none 0 0) := h.st.keep hk (cp_no h.fb (Ne.symm hi))
theorem TmI.kst_move (h : TmI w b p g bb pg tl F own T) (hk : Keep (Cp F own i) w w') (hi : i ≠ 2) : St w' 260 bb (kbVals p pg T.lock T.ins T.aid) := h.kst.keep hk (cp_no h.fbb (Ne.symm hi))
theorem TmI.sp_move (h : TmI w b p g bb pg tl F own T) (hk : Keep (Cp F own i) w w') (hi : i ≠ 1) : SAt w' p g T.X := h.sp.held hk (cp_no h.fp (Ne.symm hi)) (cp_no h.fg (Ne.symm hi))
theorem TmI.pa_move (h : TmI w b p g bb pg tl F own T) (hk : Keep (Cp F own i) w w') (hi : i ≠ 3) : PgA w' pg (Cp (Gr F w w') (recol own w i) 3) T.k := (h.pa.keep hk (cp_ne hi)).mono (cp_old h.lt) (cp_lt h.lt hk.size)
theorem TmI.tl_move (h : TmI w b p g bb pg tl F own T) (hk : Keep (Cp F own i) w w') (hi : i ≠ 4) : TlAt w' tl (Cp (Gr F w w') (recol own w i) 4) T.V := (h.tl.keep hk (cp_ne hi)).mono (cp_old h.lt) (cp_lt h.lt hk.size)
theorem TmI.f_move {j c : Nat} (h : TmI w b p g bb pg tl F own T) (hc : Cp F own j c) : Cp (Gr F w w') (recol own w i) j c := cp_old h.lt c hc
/-- the screen's step; its cells may lie in a new block -/
theorem TmI.put_sc {g' : Nat} {Y : Spc} (h : TmI w b p g bb pg tl F own T) (hk : Keep (two p g) w w') (hs : SAt w' p g' Y) (ok : Y.Ok) (hg : g' = g ∨ w.heap.size ≤ g') : TmI w' b p g' bb pg tl (Gr F w w') (recol own w 1) { T with X := Y } ∧ Keep F w w' := by
  have hk1 : Keep (Cp F own 1) w w' := hk.mono (fun k e => by rcases e with e | e <;> rw [e]; exact h.fp; exact h.fg)
  refine ⟨⟨h.st_move hk1 (by decide), h.kst_move hk1 (by decide), hs, ok, h.pa_move hk1 (by decide), h.tl_move hk1 (by decide), h.pk, h.f_move h.fb, h.f_move h.fp, ?_, h.f_move h.fbb, Gr.lt h.lt hk.size⟩, hk1.mono (fun k hk => hk.1)⟩
  rcases hg with rfl | hg
  · exact h.f_move h.fg
  · exact cp_new h.lt _ (.inr ⟨hg, hs.cells.2.1⟩)
/-- the keyboard's step -/
theorem TmI.put_kb {lock' aid' : Int} {ins' : Bool} (h : TmI w b p g bb pg tl F own T) (hk : Keep (fun j => j = bb) w w') (hs : St w' 260 bb (kbVals p pg lock' ins' aid')) : TmI w' b p g bb pg tl (Gr F w w') (recol own w 2) { T with lock := lock', ins := ins', aid := aid' } ∧ Keep F w w' := by
  have hk1 : Keep (Cp F own 2) w w' := hk.mono (fun k e => by rw [e]; exact h.fbb)
  exact ⟨⟨h.st_move hk1 (by decide), hs, h.sp_move hk1 (by decide), h.ok, h.pa_move hk1 (by decide), h.tl_move hk1 (by decide), h.pk, h.f_move h.fb, h.f_move h.fp, h.f_move h.fg, h.f_move h.fbb, Gr.lt h.lt hk.size⟩, hk1.mono (fun k hk => hk.1)⟩
/-- the tally's step -/
theorem TmI.put_tl {V' : List Int} (h : TmI w b p g bb pg tl F own T) (hk : Keep (Cp F own 4) w w') (ht : TlAt w' tl (Gr (Cp F own 4) w w') V') : TmI w' b p g bb pg tl (Gr F w w') (recol own w 4) { T with V := V' } ∧ Keep F w w' :=
  ⟨⟨h.st_move hk (by decide), h.kst_move hk (by decide), h.sp_move hk (by decide), h.ok, h.pa_move hk (by decide), ht.mono (cp_new h.lt) (cp_lt h.lt hk.size), h.pk, h.f_move h.fb, h.f_move h.fp, h.f_move h.fg, h.f_move h.fbb, Gr.lt h.lt hk.size⟩, hk.mono (fun k hk => hk.1)⟩
/-- the terminal's own step -/
theorem TmI.put_st {m' : Int} (h : TmI w b p g bb pg tl F own T) (hk : Keep (fun j => j = b) w w') (hs : St w' 195 b (tmVals p bb pg tl m' none 0 0)) : TmI w' b p g bb pg tl (Gr F w w') (recol own w 0) { T with mode := m' } ∧ Keep F w w' := by
  have hk1 : Keep (Cp F own 0) w w' := hk.mono (fun k e => by rw [e]; exact h.fb)
  exact ⟨⟨hs, h.kst_move hk1 (by decide), h.sp_move hk1 (by decide), h.ok, h.pa_move hk1 (by decide), h.tl_move hk1 (by decide), h.pk, h.f_move h.fb, h.f_move h.fp, h.f_move h.fg, h.f_move h.fbb, Gr.lt h.lt hk.size⟩, hk1.mono (fun k hk => hk.1)⟩
/-- a key's step: the screen and the page -/
theorem TmI.put_key {Y : Spc} {lock' aid' : Int} {ins' : Bool} (h : TmI w b p g bb pg tl F own T) (hk : Keep (three p g pg) w w') (hb : KbC w' bb p g pg (Gr (Cp F own 3) w w') Y T.k lock' ins' aid') : TmI w' b p g bb pg tl (Gr F w w') (recol own w 3) { T with X := Y, lock := lock', ins := ins', aid := aid' } ∧ Keep F w w' := by
  have hno : ∀ j k, Cp F own j k → j ≠ 1 → j ≠ 3 → ¬ three p g pg k := fun j k hc h1 h3 e => by
    rcases e with e | e | e
    · exact cp_no hc h1 (e ▸ h.fp)
    · exact cp_no hc h1 (e ▸ h.fg)
    · exact cp_no hc h3 (e ▸ h.pa.fb)
  refine ⟨⟨h.st.keep hk (hno 0 _ h.fb (by decide) (by decide)), hb.st, hb.sp, hb.ok, hb.pa.mono (cp_new h.lt) (cp_lt h.lt hk.size), (h.tl.keep hk (fun k hk' => hno 4 k hk' (by decide) (by decide))).mono (cp_old h.lt) (cp_lt h.lt hk.size), h.pk, h.f_move h.fb, h.f_move h.fp, h.f_move h.fg, h.f_move h.fbb, Gr.lt h.lt hk.size⟩, hk.mono (fun k e => ?_)⟩
  rcases e with e | e | e
  · rw [e]; exact h.fp.1
  · rw [e]; exact h.fg.1
  · rw [e]; exact h.pa.fb.1
/-- a step behind another -/
theorem TmI.then {w1 w2 : World} {T2 : TmT} {own' : Nat → Nat} {p' g' bb' pg' tl' : Nat} (hF : ∀ k, F k → k < w.heap.size) (hk1 : Keep F w w1) (h2 : TmI w2 b p' g' bb' pg' tl' (Gr (Gr F w w1) w1 w2) own' T2) (hk2 : Keep (Gr F w w1) w1 w2) : TmI w2 b p' g' bb' pg' tl' (Gr F w w2) own' T2 ∧ Keep F w w2 :=
  ⟨h2.wide (Gr.trans hk1.size hk2.size) (Gr.lt hF (Nat.le_trans hk1.size hk2.size)), hk1.gr hk2⟩
theorem TmI.upg {w1 w2 : World} {own' : Nat → Nat} (hF : ∀ k, F k → k < w.heap.size) (hk1 : Keep F w w1) (h : TmI w1 b p g bb pg tl (Gr F w w1) own' T) (hu : Up w1 w2) : TmI w2 b p g bb pg tl (Gr F w w2) own' T ∧ Keep F w w2 :=
  ⟨(h.up hu).wide (fun k hk => hk.imp id (fun h => ⟨h.1, Nat.lt_of_lt_of_le h.2 hu.size⟩)) (Gr.lt hF (Nat.le_trans hk1.size hu.size)), hk1.up hu⟩
end
end Go.Proofs.YtamfjgioajmnpaaGreatDoor
namespace Go.Proofs.YtamfjgioajmnpaaGreatDoor
open Go.ChangeShapes Go.WideShapes Go.ChangeAt Go.RowKit

section
variable {H : Type} {enc : TypeId × Value → H} {P : Program} {w : World} {base : Nat} {sp : Nat → Bool} {held : Bool}
def rowDatum {H : Type} (r : List UInt8 × Int × Int) : DataW H := .agg [.lit (.string r.1), .lit (.int .u8 r.2.1), .lit (.int .u8 r.2.2)]
theorem cells_of_rows {fuel : Nat} {t e : TypeId} {n : Nat} {f0 f1 f2 : Field} {cs : List Value} {ls : List (List UInt8 × Int × Int)} {p : List MemPlace}
    (ht : P.underlying t = some (.array n e)) (he : P.underlying e = some (.struct #[f0, f1, f2])) (hce : P.cellsOf e = 3)
    (h0 : P.underlying f0.type = some .string) (h1 : P.underlying f1.type = some (.int .u8)) (h2 : P.underlying f2.type = some (.int .u8))
    (o0 : f0.offset = 0) (o1 : f1.offset = 1) (o2 : f2.offset = 2) (c0 : P.cellsOf f0.type = 1) (c1 : P.cellsOf f1.type = 1) (c2 : P.cellsOf f2.type = 1)
    (h : DataW.trod enc P w base sp held fuel t cs = some (.agg (ls.map rowDatum), p)) (i : Nat) (r : List UInt8 × Int × Int) (hi : ls[i]? = some r) :
    cs[3 * i]? = some (.string ⟨r.1.toArray⟩) ∧ cs[3 * i + 1]? = some (.int .u8 r.2.1) ∧ cs[3 * i + 2]? = some (.int .u8 r.2.2) := by
  obtain ⟨xs, m, _, hx, _, hl, hat⟩ := DataW.trod_array ht h
  have hxs : xs.map (·.1) = ls.map rowDatum := by
    have := congrArg Prod.fst hx
    simpa using this.symm
  have hlen : ls.length = n := by
    have := congrArg List.length hxs
    simp at this
    omega
  have hin : i < n := by
    have := (List.getElem?_eq_some_iff.1 hi).1
    omega
  have h3 := hat i hin
  rw [hce] at h3
  have h4 : (xs.map (·.1))[i]? = some (rowDatum r) := by rw [hxs, List.getElem?_map, hi]; rfl
  rw [List.getElem?_map] at h4
  obtain ⟨y, hy, hy1⟩ := Option.map_eq_some_iff.1 h4
  rw [hy] at h3
  obtain ⟨y0, y1, y2, m', rfl, _, g0, g1, g2⟩ := Go.Deep.trod_struct3 he h3
  rw [o0, c0] at g0
  rw [o1, c1] at g1
  rw [o2, c2] at g2
  simp only [rowDatum, DataW.agg.injEq, List.cons.injEq, and_true] at hy1
  obtain ⟨e0, e1, e2⟩ := hy1
  obtain ⟨s, k0, rfl, _⟩ := DataW.trod_string h0 g0
  obtain ⟨z1, k1, rfl, _⟩ := DataW.trod_int h1 g1
  obtain ⟨z2, k2, rfl, _⟩ := DataW.trod_int h2 g2
  have e0' : s.data.toList = r.1 := by simpa using e0
  have e1' : z1 = r.2.1 := by simpa using e1
  have e2' : z2 = r.2.2 := by simpa using e2
  have q0 := congrArg (·[0]?) k0
  have q1 := congrArg (·[0]?) k1
  have q2 := congrArg (·[0]?) k2
  simp [List.getElem?_drop] at q0 q1 q2
  refine ⟨?_, ?_, ?_⟩
  · rw [← e0', Nat.mul_comm, q0]
  · rw [← e1', Nat.mul_comm, q1]
  · rw [← e2', Nat.mul_comm, q2]
theorem laid_rows {W : World} {name : String} {ls : List (List UInt8 × Int × Int)} {rest : List (String × DataW Unit)} {g : Nat} {t e : TypeId} {n : Nat} {f0 f1 f2 : Field}
    (hg : P.globalNamed name = some g) (hty : (P.globals[g]?).map (·.type) = some t) (ht : P.underlying t = some (.array n e)) (he : P.underlying e = some (.struct #[f0, f1, f2])) (hce : P.cellsOf e = 3)
    (h0 : P.underlying f0.type = some .string) (h1 : P.underlying f1.type = some (.int .u8)) (h2 : P.underlying f2.type = some (.int .u8))
    (o0 : f0.offset = 0) (o1 : f1.offset = 1) (o2 : f2.offset = 2) (c0 : P.cellsOf f0.type = 1) (c1 : P.cellsOf f1.type = 1) (c2 : P.cellsOf f2.type = 1)
    (h : laidMet P ((name, .agg (ls.map rowDatum)) :: rest) W) (i : Nat) (r : List UInt8 × Int × Int) (hi : ls[i]? = some r) :
    W.cell? ⟨g, 3 * i, none⟩ = some (.string ⟨r.1.toArray⟩) ∧ W.cell? ⟨g, 3 * i + 1, none⟩ = some (.int .u8 r.2.1) ∧ W.cell? ⟨g, 3 * i + 2, none⟩ = some (.int .u8 r.2.2) := by
  obtain ⟨ps, ⟨g', t', cs, fuel, p, q, hg', ht', hvar, hd, _, _⟩, _⟩ := h
  obtain rfl := Option.some.inj (hg.symm.trans hg')
  obtain rfl := Option.some.inj (hty.symm.trans ht')
  obtain ⟨a0, a1, a2⟩ := cells_of_rows ht he hce h0 h1 h2 o0 o1 o2 c0 c1 c2 hd i r hi
  refine ⟨?_, ?_, ?_⟩
  · rw [World.var?_cell hg hvar]; simpa using a0
  · rw [World.var?_cell hg hvar]; simpa using a1
  · rw [World.var?_cell hg hvar]; simpa using a2
end
end Go.Proofs.YtamfjgioajmnpaaGreatDoor
namespace Go.Proofs.YtamfjgioajmnpaaGreatDoor
open Go.RowKit
set_option linter.unusedVariables false
set_option linter.unusedSimpArgs false

def cmds : List (List UInt8 × Int × Int) :=
  [([78, 111, 116, 104, 105, 110, 103], 3, 3), ([87, 114, 105, 116, 101], 1, 241), ([69, 114, 97, 115, 101, 87, 114, 105, 116, 101], 5, 245),
   ([69, 114, 97, 115, 101, 65, 108, 116, 101, 114, 110, 97, 116, 101], 13, 126), ([69, 114, 97, 115, 101, 85, 110, 112, 114, 111, 116, 101, 99, 116, 101, 100], 15, 111),
   ([82, 101, 97, 100, 66, 117, 102, 102, 101, 114], 2, 242), ([82, 101, 97, 100, 77, 111, 100, 105, 102, 105, 101, 100], 6, 246), ([82, 101, 97, 100, 65, 108, 108], 14, 110),
   ([83, 116, 114, 117, 99, 116, 117, 114, 101, 100], 17, 243)]
def cWord (i : Nat) : ByteArray := ⟨(cmds.getD i ([], 0, 0)).1.toArray⟩
def cOne (i : Nat) : Int := (cmds.getD i ([], 0, 0)).2.1
def cOth (i : Nat) : Int := (cmds.getD i ([], 0, 0)).2.2
theorem gTabW : Tryz.prog.globalNamed "vitrine/write.names" = some 4 := by kernel_rfl
theorem gTabWType : (Tryz.prog.globals[4]?).map (·.type) = some 434 := by kernel_rfl
theorem cellsName : Tryz.prog.cellsOf 433 = 3 := by kernel_rfl
/-- write's table of names lies as the text lays it -/
structure TabW (w : World) : Prop where
  lt : 4 < w.heap.size
  cell : ∀ i, i < 9 → w.cell? ⟨4, 3 * i, none⟩ = some (.string (cWord i)) ∧ w.cell? ⟨4, 3 * i + 1, none⟩ = some (.int .u8 (cOne i)) ∧ w.cell? ⟨4, 3 * i + 2, none⟩ = some (.int .u8 (cOth i))
theorem TabW.keep {w w' : World} {E : Nat → Prop} (h : TabW w) (k : Keep E w w') (hE : ¬ E 4) : TabW w' :=
  ⟨Nat.lt_of_lt_of_le h.lt k.size, fun i hi => by
    obtain ⟨kc, _⟩ := k.at_ 4 h.lt hE
    rw [kc, kc, kc]
    exact h.cell i hi⟩
theorem TabW.up {w w' : World} (h : TabW w) (k : Up w w') : TabW w' := h.keep (E := fun _ => False) (Keep.of_up k) (fun e => e)
theorem cmd_row (i : Nat) (h : i < 9) : cmds[i]? = some ((cWord i).data.toList, cOne i, cOth i) := by
  match i, h with
  | 0, _ | 1, _ | 2, _ | 3, _ | 4, _ | 5, _ | 6, _ | 7, _ | 8, _ => rfl
theorem tabW_of {W : World} {rest : List (String × DataW Unit)} (h : laidMet Tryz.prog (("vitrine/write.names", .agg (cmds.map rowDatum)) :: rest) W) : TabW W := by
  have hc := fun i hi => laid_rows gTabW gTabWType Tryz.underlying434 Tryz.underlying433 cellsName
    Tryz.underlying9 Tryz.underlying5 Tryz.underlying5 rfl rfl rfl (by kernel_rfl) (by kernel_rfl) (by kernel_rfl) h i _ (cmd_row i hi)
  exact ⟨cell_lt (hc 0 (by omega)).1, fun i hi => by
    have := hc i hi
    simpa using this⟩
def crow (i : Nat) : List Value := [.string (cWord i), .int .u8 (cOne i), .int .u8 (cOth i)]
def call9 : List Value := (List.range 9).flatMap crow
theorem call9_len : call9.length = 27 := rfl
theorem call9_at (i : Nat) (h : i < 9) : call9[3 * i]? = some (.string (cWord i)) ∧ call9[3 * i + 1]? = some (.int .u8 (cOne i)) ∧ call9[3 * i + 2]? = some (.int .u8 (cOth i)) := by
  match i, h with
  | 0, _ | 1, _ | 2, _ | 3, _ | 4, _ | 5, _ | 6, _ | 7, _ | 8, _ => exact ⟨rfl, rfl, rfl⟩
theorem TabW.range {w : World} (h : TabW w) : w.rangeAt 4 0 call9 := by
  intro j v hv
  have hj : j < 27 := by have := (List.getElem?_eq_some_iff.1 hv).1; rwa [call9_len] at this
  obtain ⟨i, r, hi, hr, rfl⟩ : ∃ i r, i < 9 ∧ r < 3 ∧ j = 3 * i + r := ⟨j / 3, j % 3, by omega, by omega, by omega⟩
  obtain ⟨a0, a1, a2⟩ := call9_at i hi
  obtain ⟨b0, b1, b2⟩ := h.cell i hi
  rw [Nat.zero_add]
  match r, hr with
  | 0, _ => exact b0.trans (a0.symm.trans hv)
  | 1, _ => exact b1.trans (a1.symm.trans hv)
  | 2, _ => exact b2.trans (a2.symm.trans hv)
def hitC (b : Int) (i : Nat) : Bool := cOne i == b || cOth i == b
def cmdOf (b : Int) : Option Nat := (List.range 9).find? (hitC b)
theorem find_rangeC {f : Nat → Bool} : ∀ {n i : Nat}, i < n → f i = true → (∀ j, j < i → f j = false) → (List.range n).find? f = some i
  | 0, _, h, _, _ => absurd h (by omega)
  | n + 1, i, h, hf, hj => by
    rw [List.range_succ, List.find?_append]
    rcases Nat.lt_or_ge i n with hlt | hge
    · rw [find_rangeC hlt hf hj]; rfl
    · obtain rfl : i = n := by omega
      have : (List.range i).find? f = none := by
        rw [List.find?_eq_none]
        intro x hx
        rw [hj x (by simpa using hx)]
        simp
      simp [this, hf]
theorem find_none {f : Nat → Bool} {n : Nat} (h : ∀ j, j < n → f j = false) : (List.range n).find? f = none := by
  rw [List.find?_eq_none]
  intro x hx
  rw [h x (by simpa using hx)]
  simp
theorem part_agg {P : Program} {t : TypeId} {d : TypeDesc} {n : Nat} (hu : P.underlying t = some d) (hd : d.isRow = true) (hi : (P.info? t).map (·.size) = some n) (cs : Array Value) (off : Nat) (w : World) :
    (part t cs off).run P w = .ok (.agg (cs.extract off (off + n))) w := by
  have hagg : (isAgg t).run P w = .ok true w := by
    unfold isAgg
    rw [Sem.run_bind, run_underlying hu w]
    cases d <;> simp_all [TypeDesc.isRow]
  cases hq : P.info? t with
  | none => simp [hq] at hi
  | some i =>
    have hs : i.size = n := by simpa [hq] using hi
    simp [part, Sem.run_bind, hagg, sizeOf, typeInfo, hq, hs]
theorem run_index_arr {P : Program} {t e : TypeId} {n size : Nat} {cs : Array Value} {v : Value} {w : World} (hu : P.underlying t = some (.array n e)) (i : Nat) (hi : i < n) (hs : (P.info? e).map (·.size) = some size) (hp : (part e cs (i * size)).run P w = .ok v w) :
    (Instr.index t (.agg cs) (.int .i64 (i : Int))).run P w = .ok v w := by
  have hi' : (i : Int) < n := by omega
  cases hq : P.info? e with
  | none => simp [hq] at hs
  | some x =>
    have hx : x.size = size := by simpa [hq] using hs
    simpa [Instr.index, run_underlying hu, asIntOf, hi', hi, go_sem, sizeOf, typeInfo, hq, hx] using hp
theorem idx_cmd (i : Nat) (hi : i < 9) (w : World) : (Instr.index 434 (.agg call9.toArray) (.int .i64 (i : Int))).run Tryz.prog w = .ok (.agg #[.string (cWord i), .int .u8 (cOne i), .int .u8 (cOth i)]) w := by
  refine run_index_arr Tryz.underlying434 i hi (size := 3) (by kernel_rfl) ?_
  rw [part_agg Tryz.underlying433 rfl (n := 3) (by kernel_rfl)]
  have : call9.toArray.extract (i * 3) (i * 3 + 3) = #[.string (cWord i), .int .u8 (cOne i), .int .u8 (cOth i)] := by
    match i, hi with
    | 0, _ | 1, _ | 2, _ | 3, _ | 4, _ | 5, _ | 6, _ | 7, _ | 8, _ => rfl
  rw [this]
set_option maxHeartbeats 1600000 in
theorem cmd_is (b : Int) (w : World) (h : TabW w) :
    Calls Tryz.prog 281 #[.int .u8 b] w fun e w' => e = .returned (.tuple #[.int .i64 (((cmdOf b).getD 0 : Nat) : Int), .bool (cmdOf b).isSome]) ∧ Up w w' := by
  have HR := Lib.hid h.range
  clear h
  go_enter Tryz.func281, Tryz.ntmps281
  go_wp2_with (refine wpList_load_mid rfl 434 (.global 4) rfl 4 0 rfl call9 _ HR.out Tryz.underlying434 rfl (by kernel_rfl) ?_)
  go_loopw [7] (fun q wr => ∃ i : Nat, i ≤ 9 ∧ q = .int .i64 (i : Int) ∧ Up w wr ∧ ∀ j, j < i → hitC b j = false) (fun q _ => 9 - (intOf q).toNat)
  case atStart => exact ⟨0, by omega, rfl, Up.refl w, fun _ h => by omega⟩
  case round =>
    obtain ⟨i, hi, rfl, hu, hno⟩ := hrel
    have HN := Lib.hid hno
    clear hno
    by_cases hlt : i < 9
    · have hix := fun w => idx_cmd i hlt w
      cases h1 : (cOne i == b)
      · cases h2 : (cOth i == b)
        · have H1 := Lib.hid h1
          have H2 := Lib.hid h2
          go_wp2
          go_roundw
          case rel =>
            refine ⟨i + 1, by omega, by go_num, by (repeat (first | with_reducible exact Up.refl _ | with_reducible refine Up.alloc ?_ _ | with_reducible refine Up.drew ?_ | with_reducible refine Up.drewN ?_ _ | with_reducible refine Up.setCell ?_ (by (try simp) <;> omega) _ | with_reducible assumption | with_reducible refine Up.trans ?_ (by assumption))), fun j hj => ?_⟩
            rcases Nat.lt_or_ge j i with h | h
            · exact HN.out j h
            · obtain rfl : j = i := by omega
              simp [hitC, H1.out, H2.out]
          case measure => simp [intOf]; omega
        · have hc := Lib.hid (show cmdOf b = some i from find_rangeC hlt (by simp [hitC, h2]) HN.out)
          go_wp2
          go_ret2
          rw [hc.out]
          exact ⟨rfl, by (repeat (first | with_reducible exact Up.refl _ | with_reducible refine Up.alloc ?_ _ | with_reducible refine Up.drew ?_ | with_reducible refine Up.drewN ?_ _ | with_reducible refine Up.setCell ?_ (by (try simp) <;> omega) _ | with_reducible assumption | with_reducible refine Up.trans ?_ (by assumption)))⟩
      · have hc := Lib.hid (show cmdOf b = some i from find_rangeC hlt (by simp [hitC, h1]) HN.out)
        go_wp2
        go_ret2
        rw [hc.out]
        exact ⟨rfl, by (repeat (first | with_reducible exact Up.refl _ | with_reducible refine Up.alloc ?_ _ | with_reducible refine Up.drew ?_ | with_reducible refine Up.drewN ?_ _ | with_reducible refine Up.setCell ?_ (by (try simp) <;> omega) _ | with_reducible assumption | with_reducible refine Up.trans ?_ (by assumption)))⟩
    · obtain rfl : i = 9 := by omega
      have hc := Lib.hid (show cmdOf b = none from find_none HN.out)
      go_wp2
      go_ret2
      rw [hc.out]
      exact ⟨rfl, hu⟩

set_option maxHeartbeats 1600000 in
theorem reads_is (c : Int) (w : World) :
    Calls Tryz.prog 232 #[.int .i64 c] w fun e w' => e = .returned (.bool (decide (5 ≤ c) && decide (c ≤ 7))) ∧ w = w' := by
  by_cases h : 5 ≤ c
  · by_cases h' : c ≤ 7
    all_goals
      go_enter Tryz.func232, Tryz.ntmps232
      go_wp2
      go_ret
      exact ⟨ret_bool (by simp [h, h']), rfl⟩
  · go_enter Tryz.func232, Tryz.ntmps232
    go_wp2
    go_ret
    exact ⟨ret_bool (by simp; omega), rfl⟩
end Go.Proofs.YtamfjgioajmnpaaGreatDoor
