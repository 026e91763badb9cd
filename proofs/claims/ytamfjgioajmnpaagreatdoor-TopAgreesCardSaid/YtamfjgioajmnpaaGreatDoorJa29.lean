/-
A record's maker: Add, End, Drop, NewMaker. Conditions: how it lies.
nego: an end as it lies; New, Name, Reset, State, Ready, and what is heard of TERMINAL-TYPE. Conditions: how it lies; that a name is one.
nego.Name of a name, nego.rises of few functions, nego.New. Conditions: that it is a name; the functions none or one.
-/
import Derived.Test.YtamfjgioajmnpaaGreatDoorJa28
import Derived.Deep.RegionLaw
import Derived.Lib.AppendStr
namespace Go.Proofs.YtamfjgioajmnpaaGreatDoor
open Go.RowKit
set_option linter.unusedVariables false
set_option linter.unusedSimpArgs false

structure MkT where
  p : List Int
  long : Bool
deriving DecidableEq
def addT (m : MkT) (p : List Int) : MkT := if m.long then m else if 8192 < m.p.length + p.length then ⟨(m.p ++ p).take 5, true⟩ else ⟨m.p ++ p, false⟩
theorem ne_mk8 : 251 ≠ 5 := by decide
def mkVals (M : MkT) (A : Option Addr) (c : Nat) : List Value := [.slice A M.p.length c, .bool M.long]
structure MkI (w : World) (b : Nat) (F : Nat → Prop) (M : MkT) (A : Option Addr) (c : Nat) : Prop where
  st : St w 251 b (mkVals M A c)
  fb : F b
  rd : Bt w F A M.p.length c M.p
  row : M.long = false → Row 5 1 w F A M.p.length c (bs M.p)
  short : M.p.length ≤ 8192
  lt : ∀ k, F k → k < w.heap.size
/-- a maker lies there, its blocks in F -/
def MkAt (w : World) (b : Nat) (F : Nat → Prop) (M : MkT) : Prop := ∃ A c, MkI w b F M A c
section
variable {w w' : World} {b : Nat} {F G : Nat → Prop} {M : MkT} {A : Option Addr} {c : Nat}
theorem MkI.wide (h : MkI w b F M A c) (hF : ∀ k, F k → G k) (hG : ∀ k, G k → k < w.heap.size) : MkI w b G M A c := ⟨h.st, hF _ h.fb, h.rd.mono hF, fun e => (h.row e).mono hF, h.short, hG⟩
theorem MkAt.wide (h : MkAt w b F M) (hF : ∀ k, F k → G k) (hG : ∀ k, G k → k < w.heap.size) : MkAt w b G M := by
  obtain ⟨A, c, h⟩ := h
  exact ⟨A, c, h.wide hF hG⟩
theorem MkAt.lt (h : MkAt w b F M) : ∀ k, F k → k < w.heap.size := by
  obtain ⟨A, c, h⟩ := h
  exact h.lt
theorem MkAt.fb (h : MkAt w b F M) : F b := by
  obtain ⟨A, c, h⟩ := h
  exact h.fb
theorem MkI.keep {E : Nat → Prop} (h : MkI w b F M A c) (hk : Keep E w w') (he : ∀ k, F k → ¬ E k) : MkI w' b F M A c :=
  ⟨h.st.keep hk (he _ h.fb), h.fb, h.rd.keep hk (fun g hg => he g (h.rd.in_ g hg)), fun e => (h.row e).keep hk (fun g hg => he g ((h.row e).in_ g hg)), h.short, fun k hkk => by have := h.lt k hkk; have := hk.size; omega⟩
theorem MkAt.keep {E : Nat → Prop} (h : MkAt w b F M) (hk : Keep E w w') (he : ∀ k, F k → ¬ E k) : MkAt w' b F M := by
  obtain ⟨A, c, h⟩ := h
  exact ⟨A, c, h.keep hk he⟩
end
/-- what a step of a maker leaves -/
def MkPost (w : World) (b : Nat) (F : Nat → Prop) (M : MkT) (e : Ending) (w' : World) : Prop := e = .returned (.tuple #[]) ∧ MkAt w' b (Gr F w w') M ∧ Keep F w w'
set_option maxRecDepth 100000 in
set_option maxHeartbeats 3200000 in
theorem madd_is {w : World} {b n c : Nat} {F G : Nat → Prop} {M : MkT} {A : Option Addr} {p : List Int} (h : MkAt w b F M) (hp : Bt w G A n c p) (hn : n ≤ 1000000000) :
    Calls Tryz.prog 140 #[.pointer (some ⟨b, 0, none⟩), .slice A n c] w (MkPost w b F (addT M p)) := by
  obtain ⟨i0, hi, hz0, hz1, hz2⟩ := info_parts info_u8
  obtain ⟨A1, c1, h⟩ := h
  have H := Lib.hid h
  have HP := Lib.hid hp
  have k0 := h.st.cell 0 (v := .slice A1 M.p.length c1) rfl
  have k1 := h.st.cell 1 (v := .bool M.long) rfl
  have f0 := h.st.free 0
  have f1 := h.st.free 1
  have zb := h.st.lt
  have hs := h.short
  have hl := hp.len
  have HL := Lib.hid hl
  cases hlong : M.long with
  | true =>
    have HT := Lib.hid (show addT M p = M by unfold addT; rw [hlong]; rfl)
    rw [hlong] at k1
    clear h hp hl hlong
    go_enter Tryz.func140, Tryz.ntmps140
    go_wp2
    go_end0
    rw [HT.out]
    exact ⟨rfl, ⟨A1, c1, H.out.wide (fun k hk => .inl hk) (Gr.lt H.out.lt (Nat.le_refl _))⟩, Keep.refl _ _⟩
  | false =>
    have HROW := Lib.hid (h.row hlong)
    have HLG := Lib.hid hlong
    rw [hlong] at k1
    by_cases hov : (8192 : Int) < (M.p.length : Int) + (n : Int)
    · have HT := Lib.hid (show addT M p = ⟨(M.p ++ p).take 5, true⟩ by unfold addT; rw [hlong, if_neg (by simp), if_pos (by omega)])
      clear h hp hl hlong
      go_enter Tryz.func140, Tryz.ntmps140
      go_wp2_with (at_builtin; go_must (refine wpList_row rfl 30 rfl 5 i0 _ 1 1 Tryz.underlying30 hi hz0 hz1 hz2 rfl (by decide) rfl HROW.out rfl HP.out.rd (one_bs p) (by simp [maxLen]; omega) (by omega) ?_; intro A2 c2 w2 hr2 hg2 hb2; have st2 : St w2 251 b (mkVals M A1 c1) := H.out.st.grown hg2 (HROW.out.ne H.out.st ne_mk8); have d0 := st2.cell 0 (v := .slice A1 M.p.length c1) rfl; have e0 := st2.free 0; have d1 := st2.cell 1 (v := .bool M.long) rfl; have e1 := st2.free 1; have zb2 := st2.lt; have h5c : (5 : Int) ≤ (c2 : Int) := (by have := hr2.le; omega); have hcm : (c2 : Int) ≤ 9223372036854775807 := (by have := hr2.mx; simp [maxLen] at this; omega); have ST2 := Lib.hid st2; have HR2 := Lib.hid hr2; have HG2 := Lib.hid hg2; have HB2 := Lib.hid hb2; clear st2 hr2 hg2 hb2))
      go_end0
      rw [HT.out]
      have hk : Keep F w ((w2.setCell ⟨b, 0, none⟩ (.slice A2 5 5)).setCell ⟨b, 1, none⟩ (.bool true)) := (((Keep.refl F w).trans (Keep.grown HG2.out (fun g hg => HROW.out.in_ g hg))).setCell (p := ⟨b, 0, none⟩) (.inl H.out.fb) _).setCell (p := ⟨b, 1, none⟩) (.inl H.out.fb) _
      have hlen : ((M.p ++ p).take 5).length = 5 := by rw [List.length_take, List.length_append, HL.out]; omega
      have hr := ((HR2.out.struct ST2.out ne_mk8 0 (.slice A2 5 5)).struct (ST2.out.set 0 _) ne_mk8 1 (.bool true)).gr (F := F) (w := w) (fun g hg => hg.imp id (fun e => by rw [e]; exact Nat.le_refl _))
      have hbt : Bt _ _ A2 (M.p.length + n) c2 (M.p ++ p) := Bt.of_row (by rw [bs_app]; exact hr) (H.out.rd.bytes.app HP.out.bytes)
      refine ⟨rfl, ⟨A2, 5, ⟨by simpa [mkVals, hlen] using (ST2.out.set 0 (.slice A2 5 5)).set 1 (.bool true), .inl H.out.fb, ?_, (fun e => by cases e), by simp only [hlen]; omega, Gr.lt H.out.lt hk.size⟩⟩, hk⟩
      simp only [hlen]
      have ht := hbt.rd.take (k := 5) (by omega)
      rw [Nat.mul_one] at ht
      exact ⟨by rwa [bs, ← List.map_take] at ht, Nat.le_refl _, by simp [maxLen], hbt.in_, hbt.bytes.take 5, hbt.tag⟩
    · have HT := Lib.hid (show addT M p = ⟨M.p ++ p, false⟩ by unfold addT; rw [hlong, if_neg (by simp), if_neg (by omega)])
      clear h hp hl hlong
      go_enter Tryz.func140, Tryz.ntmps140
      go_wp2_with (at_builtin; go_must (refine wpList_row rfl 30 rfl 5 i0 _ 1 1 Tryz.underlying30 hi hz0 hz1 hz2 rfl (by decide) rfl HROW.out rfl HP.out.rd (one_bs p) (by simp [maxLen]; omega) (by omega) ?_; intro A2 c2 w2 hr2 hg2 hb2; have st2 : St w2 251 b (mkVals M A1 c1) := H.out.st.grown hg2 (HROW.out.ne H.out.st ne_mk8); have d0 := st2.cell 0 (v := .slice A1 M.p.length c1) rfl; have e0 := st2.free 0; have zb2 := st2.lt; have ST2 := Lib.hid st2; have HR2 := Lib.hid hr2; have HG2 := Lib.hid hg2; have HB2 := Lib.hid hb2; clear st2 hr2 hg2 hb2))
      go_end0
      rw [HT.out]
      have hk : Keep F w (w2.setCell ⟨b, 0, none⟩ (.slice A2 (M.p.length + n) c2)) := ((Keep.refl F w).trans (Keep.grown HG2.out (fun g hg => HROW.out.in_ g hg))).setCell (p := ⟨b, 0, none⟩) (.inl H.out.fb) _
      have hlen : (M.p ++ p).length = M.p.length + n := by rw [List.length_append, HL.out]
      have hr := (HR2.out.struct ST2.out ne_mk8 0 (.slice A2 (M.p.length + n) c2)).gr (F := F) (w := w) (fun g hg => hg.imp id (fun e => by rw [e]; exact Nat.le_refl _))
      rw [← bs_app] at hr
      refine ⟨rfl, ⟨A2, c2, ⟨by simpa [mkVals, hlen, HLG.out] using ST2.out.set 0 (.slice A2 (M.p.length + n) c2), .inl H.out.fb, ?_, fun _ => ?_, by rw [hlen]; omega, Gr.lt H.out.lt hk.size⟩⟩, hk⟩
      · simp only [hlen]; exact Bt.of_row hr (H.out.rd.bytes.app HP.out.bytes)
      · simp only [hlen]; exact hr
set_option maxRecDepth 100000 in
set_option maxHeartbeats 3200000 in
theorem mdrop_is {w : World} {b : Nat} {F : Nat → Prop} {M : MkT} (h : MkAt w b F M) :
    Calls Tryz.prog 181 #[.pointer (some ⟨b, 0, none⟩)] w fun e w' => e = .returned (.tuple #[]) ∧ MkAt w' b (Gr F w w') ⟨[], false⟩ ∧ Keep (fun k => k = b) w w' := by
  obtain ⟨A1, c1, h⟩ := h
  have H := Lib.hid h
  have k0 := h.st.cell 0 (v := .slice A1 M.p.length c1) rfl
  have k1 := h.st.cell 1 (v := .bool M.long) rfl
  have f0 := h.st.free 0
  have f1 := h.st.free 1
  have zb := h.st.lt
  clear h
  go_enter Tryz.func181, Tryz.ntmps181
  go_wp2
  go_end0
  have hk : Keep (fun k => k = b) w ((w.setCell ⟨b, 0, none⟩ (.slice none 0 0)).setCell ⟨b, 1, none⟩ (.bool false)) := ((Keep.refl (fun k => k = b) w).setCell (p := ⟨b, 0, none⟩) (.inl rfl) _).setCell (p := ⟨b, 1, none⟩) (.inl rfl) _
  exact ⟨rfl, ⟨none, 0, ⟨(H.out.st.set 0 (.slice none 0 0)).set 1 (.bool false), .inl H.out.fb, Bt.none_, fun _ => Row.none_, by simp, Gr.lt H.out.lt hk.size⟩⟩, hk⟩
/-- what End leaves -/
def EndPost (w : World) (b : Nat) (F : Nat → Prop) (M : MkT) (e : Ending) (w' : World) : Prop :=
  ∃ A c, e = .returned (.agg #[.slice A M.p.length c, .bool M.long]) ∧ Bt w' F A M.p.length c M.p ∧ MkAt w' b (Gr F w w') ⟨[], false⟩ ∧ Keep F w w'
set_option maxRecDepth 100000 in
set_option maxHeartbeats 3200000 in
theorem mend_is {w : World} {b : Nat} {F : Nat → Prop} {M : MkT} (h : MkAt w b F M) :
    Calls Tryz.prog 142 #[.pointer (some ⟨b, 0, none⟩)] w (EndPost w b F M) := by
  have HD : ∀ w', Up w w' → Calls Tryz.prog 181 #[.pointer (some ⟨b, 0, none⟩)] w' fun e w'' => e = .returned (.tuple #[]) ∧ MkAt w'' b (Gr F w' w'') ⟨[], false⟩ ∧ Keep (fun k => k = b) w' w'' := fun w' hu => mdrop_is (by
    obtain ⟨A1, c1, h⟩ := h
    exact ⟨A1, c1, ⟨h.st.up hu, h.fb, h.rd.up hu, fun e => (h.row e).up hu, h.short, fun k hk => by have := h.lt k hk; have := hu.size; omega⟩⟩)
  have HDR := Lib.hid HD
  clear HD
  obtain ⟨A1, c1, h⟩ := h
  have H := Lib.hid h
  have k0 := h.st.cell 0 (v := .slice A1 M.p.length c1) rfl
  have k1 := h.st.cell 1 (v := .bool M.long) rfl
  have zb := h.st.lt
  clear h
  go_enter Tryz.func142, Tryz.ntmps142
  go_wp2_with fail
  go_region_law (fail)
  all_goals
    go_wp2_with fail
    have hu : Up w (((w.alloc (.cells #[.slice none 0 0, .bool false] 268)).alloc (.cells #[.slice A1 M.p.length c1, .bool M.long] 268)).drew) := (((Up.refl w).alloc _).alloc _).drew
    refine (HDR.out _ hu).mono ?_
    rintro e w1 ⟨rfl, hm1, hk1⟩
    have s2 : St w1 268 w.heap.size [.slice none 0 0, .bool false] := (((St.new w 268 [.slice none 0 0, .bool false] rfl).alloc _).drew).keep hk1 (by omega)
    have s3 : St w1 268 (w.heap.size + 1) [.slice A1 M.p.length c1, .bool M.long] := by
      have := (St.new (w.alloc (.cells #[.slice none 0 0, .bool false] 268)) 268 [.slice A1 M.p.length c1, .bool M.long] (cs := #[.slice A1 M.p.length c1, .bool M.long]) rfl)
      rw [World.size_alloc] at this
      exact this.drew.keep hk1 (by omega)
    have a0 := s2.cell 0 (v := .slice none 0 0) rfl
    have a1 := s2.cell 1 (v := .bool false) rfl
    have g0 := s2.free 0
    have g1 := s2.free 1
    have b0 := s3.cell 0 (v := .slice A1 M.p.length c1) rfl
    have b1 := s3.cell 1 (v := .bool M.long) rfl
    have z2 := s2.lt
    have z3 := s3.lt
    have S2 := Lib.hid s2
    have HU := Lib.hid hu
    have HM1 := Lib.hid hm1
    have HK1 := Lib.hid hk1
    clear s2 s3 hu hm1 hk1
    go_wp2_with fail
    have S4 := (S2.out.set 0 (.slice A1 M.p.length c1)).set 1 (.bool M.long)
    have q0 := S4.cell 0 (v := .slice A1 M.p.length c1) rfl
    have q1 := S4.cell 1 (v := .bool M.long) rfl
    refine bodyPost_ret (v := .agg #[.slice A1 M.p.length c1, .bool M.long]) (by simp [results, Tryz.results142, go_sem, q0, q1]) rfl ?_
    have hk2 : Keep (fun k => k = w.heap.size) w1 ((w1.setCell ⟨w.heap.size, 0, none⟩ (.slice A1 M.p.length c1)).setCell ⟨w.heap.size, 1, none⟩ (.bool M.long)) := ((Keep.refl (fun k => k = w.heap.size) w1).setCell (p := ⟨w.heap.size, 0, none⟩) (.inl rfl) _).setCell (p := ⟨w.heap.size, 1, none⟩) (.inl rfl) _
    have hk3 := (Keep.of_up (E := fun k => k = b) HU.out).trans HK1.out
    have hne : ¬ F w.heap.size := fun h => by have := H.out.lt _ h; omega
    have hz1 := HU.out.size
    have hz2 := HK1.out.size
    have hkf : Keep F w ((w1.setCell ⟨w.heap.size, 0, none⟩ (.slice A1 M.p.length c1)).setCell ⟨w.heap.size, 1, none⟩ (.bool M.long)) := (hk3.mono (fun k hk => by rw [hk]; exact H.out.fb)).gr (hk2.mono fun k hk => .inr ⟨by omega, by omega⟩)
    have hk4 : Keep (fun k => k = b ∨ k = w.heap.size) w ((w1.setCell ⟨w.heap.size, 0, none⟩ (.slice A1 M.p.length c1)).setCell ⟨w.heap.size, 1, none⟩ (.bool M.long)) := (hk3.mono (fun k hk => .inl hk)).trans (hk2.mono fun k hk => .inr hk)
    refine ⟨A1, c1, rfl, H.out.rd.keep hk4 (fun g hg e => ?_), ?_, hkf⟩
    · have hgl := H.out.rd.lt hg
      rcases e with e | e
      · subst e
        obtain ⟨cur, q, h1⟩ := H.out.rd.tag _ hg
        rw [show w.heap[g]? = _ from H.out.st] at h1
        injection h1 with h1
        injection h1 with _ h1 _
        exact ne_mk8 h1
      · omega
    · refine (HM1.out.keep hk2 (fun k hk e => ?_)).wide (fun k hk => ?_) (Gr.lt H.out.lt hkf.size)
      · subst e
        rcases hk with h | h
        · exact hne h
        · have := h.1; simp at this; omega
      · rcases hk with h | h
        · exact .inl h
        · have := h.1; simp at this
          have := h.2
          exact .inr ⟨by omega, by simp [World.setCell]; omega⟩
theorem newMaker_is (w : World) : Calls Tryz.prog 95 #[] w fun e w' => e = .returned (.pointer (some ⟨w.heap.size, 0, none⟩)) ∧ MkAt w' w.heap.size (fun k => k = w.heap.size) ⟨[], false⟩ ∧ Up w w' := by
  go_enter Tryz.func95, Tryz.ntmps95
  go_wp2
  go_ret
  exact ⟨rfl, ⟨none, 0, ⟨St.new w _ _ rfl, rfl, Bt.none_, fun _ => Row.none_, by simp, fun k hk => by subst hk; simp⟩⟩, (Up.refl _).alloc _⟩
end Go.Proofs.YtamfjgioajmnpaaGreatDoor
namespace Go.Proofs.YtamfjgioajmnpaaGreatDoor
open Go.RowKit
set_option linter.unusedVariables false
set_option linter.unusedSimpArgs false

structure EnT where
  typ : ByteArray
  dev : ByteArray
  fns : List Int
  st : Int
  device : ByteArray
  agreed : List Int
def EnT.reset (E : EnT) : EnT := { E with st := 0, device := ⟨#[]⟩, agreed := [] }
def sB (s : ByteArray) : List Int := s.data.toList.map fun b => (b.toNat : Int)
theorem sB_bl (s : ByteArray) : BL (sB s) := by
  intro x hx
  obtain ⟨b, _, rfl⟩ := List.mem_map.1 hx
  have := b.toNat_lt
  omega
theorem sB_cells (s : ByteArray) : Lib.strCells s = bs (sB s) := by
  unfold Lib.strCells bs sB
  rw [List.map_map]
  rfl
theorem sB_len (s : ByteArray) : (sB s).length = s.size := by
  unfold sB
  rw [List.length_map, Array.length_toList]
  rfl
theorem ne_en8 : 241 ≠ 5 := by decide
def enVals (E : EnT) (Af : Option Addr) (cf : Nat) (Ag : Option Addr) (cg : Nat) : List Value := [.string E.typ, .string E.dev, .slice Af E.fns.length cf, .int .i64 E.st, .string E.device, .slice Ag E.agreed.length cg]
structure EnI (w : World) (b : Nat) (F : Nat → Prop) (E : EnT) (Af : Option Addr) (cf : Nat) (Ag : Option Addr) (cg : Nat) : Prop where
  st : St w 241 b (enVals E Af cf Ag cg)
  fb : F b
  fns : Bt w F Af E.fns.length cf E.fns
  agr : Bt w F Ag E.agreed.length cg E.agreed
  lt : ∀ k, F k → k < w.heap.size
/-- an end lies there, its blocks in F -/
def EnAt (w : World) (b : Nat) (F : Nat → Prop) (E : EnT) : Prop := ∃ Af cf Ag cg, EnI w b F E Af cf Ag cg
section
variable {w w' : World} {b : Nat} {F G : Nat → Prop} {E : EnT} {Af Ag : Option Addr} {cf cg : Nat}
theorem EnI.keep {D : Nat → Prop} (h : EnI w b F E Af cf Ag cg) (hk : Keep D w w') (he : ∀ k, F k → ¬ D k) : EnI w' b F E Af cf Ag cg :=
  ⟨h.st.keep hk (he _ h.fb), h.fb, h.fns.keep hk (fun g hg => he g (h.fns.in_ g hg)), h.agr.keep hk (fun g hg => he g (h.agr.in_ g hg)), fun k hkk => by have := h.lt k hkk; have := hk.size; omega⟩
theorem EnAt.keep {D : Nat → Prop} (h : EnAt w b F E) (hk : Keep D w w') (he : ∀ k, F k → ¬ D k) : EnAt w' b F E := by
  obtain ⟨Af, cf, Ag, cg, h⟩ := h
  exact ⟨Af, cf, Ag, cg, h.keep hk he⟩
theorem EnAt.wide (h : EnAt w b F E) (hF : ∀ k, F k → G k) (hG : ∀ k, G k → k < w.heap.size) : EnAt w b G E := by
  obtain ⟨Af, cf, Ag, cg, h⟩ := h
  exact ⟨Af, cf, Ag, cg, h.st, hF _ h.fb, h.fns.mono hF, h.agr.mono hF, hG⟩
theorem EnAt.fb (h : EnAt w b F E) : F b := by
  obtain ⟨Af, cf, Ag, cg, h⟩ := h
  exact h.fb
end
set_option maxRecDepth 100000 in
set_option maxHeartbeats 3200000 in
theorem reset_is {w : World} {b : Nat} {F : Nat → Prop} {E : EnT} (h : EnAt w b F E) :
    Calls Tryz.prog 175 #[.pointer (some ⟨b, 0, none⟩)] w fun e w' => e = .returned (.tuple #[]) ∧ EnAt w' b (Gr F w w') E.reset ∧ Keep (fun k => k = b) w w' := by
  obtain ⟨Af, cf, Ag, cg, h⟩ := h
  have H := Lib.hid h
  have k3 := h.st.cell 3 (v := .int .i64 E.st) rfl
  have k4 := h.st.cell 4 (v := .string E.device) rfl
  have k5 := h.st.cell 5 (v := .slice Ag E.agreed.length cg) rfl
  have f3 := h.st.free 3
  have f4 := h.st.free 4
  have f5 := h.st.free 5
  have zb := h.st.lt
  clear h
  go_enter Tryz.func175, Tryz.ntmps175
  go_wp2
  go_end0
  have hk : Keep (fun k => k = b) w (((w.setCell ⟨b, 3, none⟩ (.int .i64 0)).setCell ⟨b, 4, none⟩ (.string ⟨#[]⟩)).setCell ⟨b, 5, none⟩ (.slice none 0 0)) := (((Keep.refl (fun k => k = b) w).setCell (p := ⟨b, 3, none⟩) (.inl rfl) _).setCell (p := ⟨b, 4, none⟩) (.inl rfl) _).setCell (p := ⟨b, 5, none⟩) (.inl rfl) _
  exact ⟨rfl, ⟨Af, cf, none, 0, ((H.out.st.set 3 (.int .i64 0)).set 4 (.string ⟨#[]⟩)).set 5 (.slice none 0 0), .inl H.out.fb, (H.out.fns.keep hk (fun g hg e => H.out.fns.block_ne' H.out.st ne_en8 (e ▸ hg))).mono (fun g hg => .inl hg), Bt.none_, Gr.lt H.out.lt hk.size⟩, hk⟩
theorem nstate_is {w : World} {b : Nat} {F : Nat → Prop} {E : EnT} (h : EnAt w b F E) :
    Calls Tryz.prog 177 #[.pointer (some ⟨b, 0, none⟩)] w fun e w' => e = .returned (.int .i64 E.st) ∧ w = w' := by
  obtain ⟨Af, cf, Ag, cg, h⟩ := h
  have k3 := h.st.cell 3 (v := .int .i64 E.st) rfl
  have zb := h.st.lt
  clear h
  go_enter Tryz.func177, Tryz.ntmps177
  go_wp2
  go_ret
  exact ⟨rfl, rfl⟩
theorem nready_is {w : World} {b : Nat} {F : Nat → Prop} {E : EnT} (h : EnAt w b F E) {t : Bool} (ht : (E.st == 3) = t) :
    Calls Tryz.prog 214 #[.pointer (some ⟨b, 0, none⟩)] w fun e w' => e = .returned (.bool t) ∧ w = w' := by
  have HS := Lib.hid (nstate_is h)
  clear h
  go_enter Tryz.func214, Tryz.ntmps214
  go_wp2_with fail
  refine HS.out.mono ?_
  rintro e w' ⟨rfl, rfl⟩
  go_wp2
  go_ret
  exact ⟨by rw [← ht]; simp, rfl⟩
set_option maxRecDepth 100000 in
set_option maxHeartbeats 3200000 in
/-- TERMINAL-TYPE is asked for -/
theorem hearType_is {w : World} {b c g off : Nat} {F : Nat → Prop} {E : EnT} (h : EnAt w b F E) (hp : w.cell? ⟨g, off, none⟩ = some (.int .u8 1)) (hn : E.typ.size ≤ 1000) :
    Calls Tryz.prog 176 #[.pointer (some ⟨b, 0, none⟩), .int .u8 24, .slice (some ⟨g, off, none⟩) 1 c] w fun e w' => ∃ A c', e = .returned (.tuple #[.slice A (1 + E.typ.size) c', .int .i64 0]) ∧ Row 5 1 w' (fun k => w.heap.size ≤ k) A (1 + E.typ.size) c' (bs (0 :: sB E.typ)) ∧ Up w w' := by
  obtain ⟨i0, hi, hz0, hz1, hz2⟩ := info_parts info_u8
  obtain ⟨Af, cf, Ag, cg, h⟩ := h
  have k0 := h.st.cell 0 (v := .string E.typ) rfl
  have zb := h.st.lt
  have zg := cell_lt hp
  clear h
  obtain ⟨s, hs⟩ : ∃ s, E.typ = s := ⟨_, rfl⟩
  rw [hs] at k0 hn ⊢
  clear hs
  go_enter Tryz.func176, Tryz.ntmps176
  go_wp2_with (at_builtin; go_must (refine Lib.wpList_append_own_string _ rfl (.tmp 23) (.tmp 28) 30 9 rfl w.heap.size 5 i0 Tryz.underlying30 Tryz.underlying9 hi hz0 hz1 hz2 _ 1 [.int .u8 0] rfl (World.ownsRow_lit w #[.int .u8 0] 1 (Nat.le_refl _) (by simp [maxLen]) rfl) s rfl (by simp [maxLen]; omega) (by omega) (by simp) ?_; intro v1 w1 ho1 hg1 hn1; obtain ⟨A1, c1, rfl, hle1, hmx1⟩ := own_form ho1; have HO1 := Lib.hid ho1; have HG1 := Lib.hid hg1; clear ho1 hg1 hn1))
  go_ret2
  refine ⟨A1, c1, rfl, ⟨own_base (by rw [show bs (0 :: sB s) = [.int .u8 0] ++ Lib.strCells s by rw [sB_cells]; rfl]; exact HO1.out) (Nat.zero_le _), hle1, hmx1, fun g hg => ?_⟩, ((Up.refl _).alloc _).grown HG1.out (fun g hg => ?_)⟩
  · obtain ⟨p, rfl, rfl⟩ := blk_of hg
    exact (own_bd HO1.out _ rfl).1
  · have e : w.heap.size = g := Option.some.inj hg
    exact Nat.le_of_eq e
end Go.Proofs.YtamfjgioajmnpaaGreatDoor
namespace Go.Proofs.YtamfjgioajmnpaaGreatDoor
open Go.RowKit
set_option linter.unusedVariables false
set_option linter.unusedSimpArgs false

/-- a name -/
structure NameOk (s : ByteArray) : Prop where
  lo : ∀ (k : Nat) (h : k < s.size), 33 ≤ (s[k].toNat : Int) ∧ (s[k].toNat : Int) ≤ 126
  ne : s.toList.isEmpty = false
  short : s.size ≤ 40
set_option maxRecDepth 100000 in
set_option maxHeartbeats 3200000 in
theorem name_is {s : ByteArray} (h : NameOk s) (w : World) :
    Calls Tryz.prog 130 #[.string s] w fun e w' => e = .returned (.bool true) ∧ w = w' := by
  have H := Lib.hid h
  have hs := h.short
  have hne := h.ne
  clear h
  go_enter Tryz.func130, Tryz.ntmps130
  go_wp2_with fail
  go_loopw [6] (fun i wr => ∃ k : Nat, k ≤ s.size ∧ i = .int .i64 (k : Int) ∧ w = wr) (fun i _ => s.size - (intOf i).toNat)
  case atStart => exact ⟨0, Nat.zero_le _, rfl, rfl⟩
  case round =>
    obtain ⟨k, hk, rfl, rfl⟩ := hrel
    by_cases hlt : k < s.size
    · obtain ⟨h1, h2⟩ := H.out.lo k hlt
      have h3 : decide ((s[k].toNat : Int) < 33) = false := by simp; omega
      have h4 : decide ((126 : Int) < (s[k].toNat : Int)) = false := by simp; omega
      go_wp2_with fail
      go_roundw
      case rel => exact ⟨k + 1, by omega, by go_num, trivial⟩
      case measure => simp [intOf]; omega
    · obtain rfl : k = s.size := by omega
      have hs' : (s.size : Int) ≤ 40 := by omega
      go_wp2_with fail
      go_ret
      exact ⟨by simp [hne], rfl⟩
set_option maxRecDepth 100000 in
set_option maxHeartbeats 3200000 in
theorem rises0_is (c : Nat) (w : World) :
    Calls Tryz.prog 131 #[.slice none 0 c] w fun e w' => e = .returned (.bool true) ∧ w = w' := by
  go_enter Tryz.func131, Tryz.ntmps131
  go_wp2_with fail
  refine wp_loop_rounds 1 ?_
  iterate 1 (all_goals (try rw [rounds_succ]); all_goals (try go_wp2))
  go_ret
  exact ⟨rfl, rfl⟩
set_option maxRecDepth 100000 in
set_option maxHeartbeats 3200000 in
theorem rises1_is {g off c : Nat} {w : World} (hp : w.cell? ⟨g, off, none⟩ = some (.int .u8 2)) :
    Calls Tryz.prog 131 #[.slice (some ⟨g, off, none⟩) 1 c] w fun e w' => e = .returned (.bool true) ∧ w = w' := by
  have zg := cell_lt hp
  go_enter Tryz.func131, Tryz.ntmps131
  go_wp2_with fail
  refine wp_loop_rounds 2 ?_
  iterate 2 (all_goals (try rw [rounds_succ]); all_goals (try go_wp2))
  go_ret
  exact ⟨rfl, rfl⟩
/-- what nego.New hands over -/
def NegPost (w : World) (s : ByteArray) (l : List Int) (e : Ending) (w' : World) : Prop :=
  ∃ b, e = .returned (.tuple #[.pointer (some ⟨b, 0, none⟩), .int .i64 0]) ∧ w.heap.size ≤ b ∧ EnAt w' b (fun k => w.heap.size ≤ k ∧ k < w'.heap.size) ⟨s, ⟨#[]⟩, l, 0, ⟨#[]⟩, []⟩ ∧ Up w w'
set_option maxRecDepth 100000 in
set_option maxHeartbeats 3200000 in
theorem nnew_is {s : ByteArray} {A : Option Addr} {n c : Nat} {l : List Int} {w : World} {G : Nat → Prop} (h : NameOk s) (hf : Bt w G A n c l) (hr : ∀ W, Up w W → Calls Tryz.prog 131 #[.slice A n c] W fun e w' => e = .returned (.bool true) ∧ W = w') (hn : n ≤ 60000) :
    Calls Tryz.prog 93 #[.agg #[.string s, .string ⟨#[]⟩, .slice A n c]] w (NegPost w s l) := by
  have HN := Lib.hid (name_is h)
  have HR := Lib.hid hr
  have HF := Lib.hid hf
  clear h hf hr
  go_enter Tryz.func93, Tryz.ntmps93
  go_wp2_with fail
  refine (HN.out _).mono ?_
  rintro e w' ⟨rfl, rfl⟩
  go_wp2_with fail
  refine (HR.out _ (by (repeat (first | with_reducible exact Up.refl _ | with_reducible refine Up.alloc ?_ _ | with_reducible refine Up.drew ?_ | with_reducible refine Up.drewN ?_ _ | with_reducible refine Up.setCell ?_ (by (try simp) <;> omega) _ | with_reducible assumption | with_reducible refine Up.trans ?_ (by assumption))))).mono ?_
  rintro e w' ⟨rfl, rfl⟩
  go_wp2_with fail
  refine (clone_sl ((HF.out.up (by (repeat (first | with_reducible exact Up.refl _ | with_reducible refine Up.alloc ?_ _ | with_reducible refine Up.drew ?_ | with_reducible refine Up.drewN ?_ _ | with_reducible refine Up.setCell ?_ (by (try simp) <;> omega) _ | with_reducible assumption | with_reducible refine Up.trans ?_ (by assumption))))).sl (by omega))).mono ?_
  rintro e w1 ⟨A1, c1, rfl, hs1, hu1⟩
  have s0 : St w1 181 w.heap.size [.string s, .string ⟨#[]⟩, .slice A n c] := (St.new w _ [.string s, .string ⟨#[]⟩, .slice A n c] rfl).up hu1
  have a0 := s0.cell 0 (v := .string s) rfl
  have a1 := s0.cell 1 (v := .string ⟨#[]⟩) rfl
  have a2 := s0.cell 2 (v := .slice A n c) rfl
  have g2 := s0.free 2
  have z0 := s0.lt
  have HS1 := Lib.hid hs1
  have HU1 := Lib.hid hu1
  have S0 := Lib.hid s0
  clear hs1 hu1 s0
  go_wp2
  go_ret2
  have hl := HF.out.len
  have hu2 : Up w (w1.setCell ⟨w.heap.size, 2, none⟩ (.slice A1 n c1)) := (((Up.refl w).alloc _).trans HU1.out).setCell (p := ⟨w.heap.size, 2, none⟩) (Nat.le_refl _) _
  have hz : (w1.setCell ⟨w.heap.size, 2, none⟩ (.slice A1 n c1)).heap.size = w1.heap.size := by simp [World.setCell]
  have hz1 := HU1.out.size
  simp only [World.size_alloc] at hz1
  have hb := Bt.of_sl (F := fun k => w.heap.size ≤ k ∧ k < w1.heap.size + 1) HS1.out (fun g hg => by
    obtain ⟨p, hp, rfl⟩ := blk_of hg
    have h1 := HS1.out.at_ p hp
    have h2 := HS1.out.lt hp
    simp only [World.size_alloc] at h1
    omega)
  have hb2 := (hb.struct S0.out (by decide) 2 (.slice A1 n c1)).up ((Up.refl _).alloc (.cells #[.string s, .string ⟨#[]⟩, .slice A1 n c1, .int .i64 0, .string ⟨#[]⟩, .slice none 0 0] 241))
  refine ⟨w1.heap.size, rfl, by omega, ⟨A1, c1, none, 0, ?_, ⟨by omega, by simp [World.setCell]⟩, ?_, Bt.none_, fun k hk => hk.2⟩, hu2.alloc _⟩
  · have := St.new (w1.setCell ⟨w.heap.size, 2, none⟩ (.slice A1 n c1)) 241 (enVals ⟨s, ⟨#[]⟩, l, 0, ⟨#[]⟩, []⟩ A1 c1 none 0) rfl
    rw [hz] at this
    simpa [enVals, hl] using this
  · simp only [hl]
    refine hb2.mono fun g hg => ⟨hg.1, ?_⟩
    have := hg.2
    simp [World.setCell]
    omega
end Go.Proofs.YtamfjgioajmnpaaGreatDoor
