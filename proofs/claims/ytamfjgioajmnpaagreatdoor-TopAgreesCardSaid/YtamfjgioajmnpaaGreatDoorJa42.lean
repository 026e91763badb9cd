/-
A session as it lies beside its link; what answer, screen and event make of a record that the terminal takes without a word. Conditions: what the terminal's Host does; that few errors were told.
A session with its link; Key, Out, Options. Conditions: what the terminal's Key does.
term.New and session.New: what they lay. Conditions: a model, a page, a name.
-/
import Derived.Test.YtamfjgioajmnpaaGreatDoorJa32
import Derived.Test.YtamfjgioajmnpaaGreatDoorJa41
import Derived.Deep.RegionHeldLaw
import Derived.Test.YtamfjgioajmnpaaGreatDoorJa40
import Derived.Test.YtamfjgioajmnpaaGreatDoorJa7
import Derived.Test.YtamfjgioajmnpaaGreatDoorJa11
namespace Go.Proofs.YtamfjgioajmnpaaGreatDoor
open Go.RowKit
set_option linter.unusedVariables false
set_option linter.unusedSimpArgs false

structure SsT where
  T : TmT
  text : List Int
  errs : List Int
def ssVals (bl bt : Nat) (At : Option Addr) (nt ct : Nat) (Ae : Option Addr) (ne ce : Nat) : List Value := [.pointer (some ⟨bl, 0, none⟩), .pointer (some ⟨bt, 0, none⟩), .slice At nt ct, .slice Ae ne ce]
def errV (l : List Int) : List Value := l.map (Value.int .i64)
theorem one_err (l : List Int) : ∀ u ∈ errV l, u.oneCell' = true := by
  intro u hu
  simp only [errV, List.mem_map] at hu
  obtain ⟨x, -, rfl⟩ := hu
  rfl
theorem errV_app (a b : List Int) : errV (a ++ b) = errV a ++ errV b := by simp [errV]
theorem ne_ss8 : 121 ≠ 5 := by decide
theorem ne_ssE : 121 ≠ 27 := by decide
theorem ne_8E : 5 ≠ 27 := by decide
theorem info_errno : (Tryz.prog.info? 27).map (fun i => (i.zero, i.size, i.bytes)) = some (some (.int .i64 0), 1, 8) := by kernel_rfl
structure SsI (w : World) (b bl bt : Nat) (F : Nat → Prop) (own : Nat → Nat) (S : SsT) (At : Option Addr) (ct : Nat) (Ae : Option Addr) (ce : Nat) : Prop where
  st : St w 121 b (ssVals bl bt At S.text.length ct Ae S.errs.length ce)
  tm : TmAt w bt (Cp F own 1) S.T
  tx : Row 5 1 w (Cp F own 0) At S.text.length ct (bs S.text)
  er : Row 27 1 w (Cp F own 0) Ae S.errs.length ce (errV S.errs)
  fb : Cp F own 0 b
  lt : ∀ k, F k → k < w.heap.size
  tab : TabW w
  nt : ¬ F 4
/-- a session but for its link -/
def SsR (b bl : Nat) (S : SsT) (F : Nat → Prop) (w : World) : Prop := ∃ bt own At ct Ae ce, SsI w b bl bt F own S At ct Ae ce
section
variable {w w' : World} {b bl bt ct ce : Nat} {F E G : Nat → Prop} {own : Nat → Nat} {S : SsT} {At Ae : Option Addr}
theorem SsI.keep (h : SsI w b bl bt F own S At ct Ae ce) (hk : Keep E w w') (he : ∀ k, F k → ¬ E k) (hn : ¬ E 4) : SsI w' b bl bt F own S At ct Ae ce :=
  ⟨h.st.keep hk (he _ h.fb.1), h.tm.keep hk (fun k hk => he k hk.1), h.tx.keep hk (fun g hg => he g (h.tx.in_ g hg).1), h.er.keep hk (fun g hg => he g (h.er.in_ g hg).1), h.fb, fun k hk' => by have := h.lt k hk'; have := hk.size; omega, h.tab.keep hk hn, h.nt⟩
theorem SsI.up (h : SsI w b bl bt F own S At ct Ae ce) (hu : Up w w') : SsI w' b bl bt F own S At ct Ae ce := h.keep (E := fun _ => False) (Keep.of_up hu) (fun _ _ h => h) (fun h => h)
theorem SsI.wide (h : SsI w b bl bt F own S At ct Ae ce) (hF : ∀ k, F k → G k) (hG : ∀ k, G k → k < w.heap.size) (hn : ¬ G 4) : SsI w b bl bt G own S At ct Ae ce :=
  ⟨h.st, h.tm.wide (fun k hk => ⟨hF k hk.1, hk.2⟩) (fun k hk => hG k hk.1), h.tx.mono (fun g hg => ⟨hF g hg.1, hg.2⟩), h.er.mono (fun g hg => ⟨hF g hg.1, hg.2⟩), ⟨hF _ h.fb.1, h.fb.2⟩, hG, h.tab, hn⟩
theorem SsR.lt (h : SsR b bl S F w) : ∀ k, F k → k < w.heap.size := by
  obtain ⟨_, _, _, _, _, _, h⟩ := h
  exact h.lt
theorem SsR.keep (h : SsR b bl S F w) (hk : Keep E w w') (he : ∀ k, F k → ¬ E k) (hn : ¬ E 4) : SsR b bl S F w' := by
  obtain ⟨bt, own, At, ct, Ae, ce, h⟩ := h
  exact ⟨bt, own, At, ct, Ae, ce, h.keep hk he hn⟩
theorem SsR.up (h : SsR b bl S F w) (hu : Up w w') : SsR b bl S F w' := h.keep (E := fun _ => False) (Keep.of_up hu) (fun _ _ h => h) (fun h => h)
theorem SsR.wide (h : SsR b bl S F w) (hF : ∀ k, F k → G k) (hG : ∀ k, G k → k < w.heap.size) (hn : ¬ G 4) : SsR b bl S G w := by
  obtain ⟨bt, own, At, ct, Ae, ce, h⟩ := h
  exact ⟨bt, own, At, ct, Ae, ce, h.wide hF hG hn⟩
theorem gr_nt (ht : TabW w) (hn : ¬ F 4) : ¬ Gr F w w' 4 := fun h => by
  rcases h with h | h
  · exact hn h
  · have := ht.lt; omega
/-- the terminal's step -/
theorem SsI.put_tm {T' : TmT} (h : SsI w b bl bt F own S At ct Ae ce) (hk : Keep (Cp F own 1) w w') (ht : TmAt w' bt (Gr (Cp F own 1) w w') T') : SsI w' b bl bt (Gr F w w') (recol own w 1) { S with T := T' } At ct Ae ce ∧ Keep F w w' :=
  ⟨⟨h.st.keep hk (cp_no h.fb (by decide)), ht.wide (cp_new h.lt) (cp_lt h.lt hk.size), (h.tx.keep hk (fun g hg => cp_no (h.tx.in_ g hg) (by decide))).mono (cp_old h.lt), (h.er.keep hk (fun g hg => cp_no (h.er.in_ g hg) (by decide))).mono (cp_old h.lt), cp_old h.lt _ h.fb, Gr.lt h.lt hk.size, h.tab.keep hk (fun e => h.nt e.1), gr_nt h.tab h.nt⟩, hk.mono (fun k hk => hk.1)⟩
/-- the session's own step -/
theorem SsI.put_own {S' : SsT} {At' Ae' : Option Addr} {ct' ce' : Nat} (h : SsI w b bl bt F own S At ct Ae ce) (hk : Keep (Cp F own 0) w w') (hs : St w' 121 b (ssVals bl bt At' S'.text.length ct' Ae' S'.errs.length ce')) (htx : Row 5 1 w' (Gr (Cp F own 0) w w') At' S'.text.length ct' (bs S'.text)) (her : Row 27 1 w' (Gr (Cp F own 0) w w') Ae' S'.errs.length ce' (errV S'.errs)) (e : S'.T = S.T) : SsI w' b bl bt (Gr F w w') (recol own w 0) S' At' ct' Ae' ce' ∧ Keep F w w' :=
  ⟨⟨hs, by rw [e]; exact (h.tm.keep hk (fun k hk => cp_no hk (by decide))).wide (cp_old h.lt) (cp_lt h.lt hk.size), htx.mono (cp_new h.lt), her.mono (cp_new h.lt), cp_old h.lt _ h.fb, Gr.lt h.lt hk.size, h.tab.keep hk (fun e => h.nt e.1), gr_nt h.tab h.nt⟩, hk.mono (fun k hk => hk.1)⟩
end
def SsPost (w : World) (b bl : Nat) (F : Nat → Prop) (S : SsT) (v : Value) (e : Ending) (w' : World) : Prop := e = .returned v ∧ SsR b bl S (Gr F w w') w' ∧ Keep F w w'
set_option maxRecDepth 100000 in
set_option maxHeartbeats 6400000 in
theorem sanswer_is {w : World} {b bl n c : Nat} {F : Nat → Prop} {S : SsT} {k x : Int} {A : Option Addr} (h : SsR b bl S F w) (zl : bl < w.heap.size) (hlen : S.errs.length < 64) :
    Calls Tryz.prog 106 #[.pointer (some ⟨b, 0, none⟩), evVal k A n c, .int .i64 x] w (SsPost w b bl F { S with errs := S.errs ++ [x] } (.tuple #[])) := by
  obtain ⟨i0, hi, hz0, hz1, hz2⟩ := info_parts info_errno
  obtain ⟨bt, own, At, ct, Ae, ce, h⟩ := h
  obtain ⟨W0, hW0⟩ : ∃ W0, w.alloc (.cells #[.int .i64 k, .slice A n c, .int .u8 0, .int .u8 0, .int .u8 0, .int .u16 0, .bool false] 132) = W0 := ⟨_, rfl⟩
  have hu0 : Up w W0 := by rw [← hW0]; exact (Up.refl w).alloc _
  have sb : St W0 132 w.heap.size (evCells k A n c) := by rw [← hW0]; exact St.new w _ (evCells k A n c) rfl
  have h0 := h.up hu0
  have k0 := h0.st.cell 0 (v := .pointer (some ⟨bl, 0, none⟩)) rfl
  have k3 := h0.st.cell 3 (v := .slice Ae S.errs.length ce) rfl
  have f3 := h0.st.free 3
  have zb := h0.st.lt
  have z0 := sb.cell 0 (v := .int .i64 k) rfl
  have z1 := sb.cell 1 (v := .slice A n c) rfl
  have z2 := sb.cell 2 (v := .int .u8 0) rfl
  have z3 := sb.cell 3 (v := .int .u8 0) rfl
  have z4 := sb.cell 4 (v := .int .u8 0) rfl
  have z5 := sb.cell 5 (v := .int .u16 0) rfl
  have z6 := sb.cell 6 (v := .bool false) rfl
  have zB := sb.lt
  obtain ⟨B, hB⟩ : ∃ B, w.heap.size = B := ⟨_, rfl⟩
  rw [hB] at z0 z1 z2 z3 z4 z5 z6 zB
  have HB := Lib.hid hB
  have HW0 := Lib.hid hW0
  have H0 := Lib.hid h0
  have HU0 := Lib.hid hu0
  have HW := Lib.hid (And.intro h.lt (And.intro h.tab h.nt))
  have hlI : (S.errs.length : Int) < 64 := by omega
  have HRE := Lib.hid (fun (W : World) (z : bl < W.heap.size) => respond0_is (n := n) (c := c) (k := k) (A := A) (x := x) z)
  have zl0 : bl < W0.heap.size := by have := hu0.size; omega
  clear h h0 hu0 hW0 hB sb
  simp only [evVal]
  go_enter Tryz.func106, Tryz.ntmps106
  go_wp2_with fail
  rw [HW0.out, HB.out]
  have hbB : b < B := by have := H0.out.lt _ H0.out.fb.1; have := HB.out; have := HU0.out.size; exact Nat.lt_of_lt_of_eq (HW.out.1 _ H0.out.fb.1) HB.out
  go_region_held_law (fun w' => w'.cell? ⟨b, 0, none⟩ = some (.pointer (some ⟨bl, 0, none⟩)) ∧ w'.cell? ⟨B, 0, none⟩ = some (.int .i64 k) ∧ w'.cell? ⟨B, 1, none⟩ = some (.slice A n c) ∧ w'.cell? ⟨B, 2, none⟩ = some (.int .u8 0) ∧ w'.cell? ⟨B, 3, none⟩ = some (.int .u8 0) ∧ w'.cell? ⟨B, 4, none⟩ = some (.int .u8 0) ∧ w'.cell? ⟨B, 5, none⟩ = some (.int .u16 0) ∧ w'.cell? ⟨B, 6, none⟩ = some (.bool false)) (first | exact ⟨k0, z0, z1, z2, z3, z4, z5, z6⟩ | exact ⟨s0, s1, s2, s3, s4, s5, s6, s7⟩ | go_keep) ((go_simp; go_at_call 146; refine (HRE.out _ (show bl < W0.drew.heap.size from zl0)).mono ?_; rintro e w1 ⟨rfl, hu1⟩; obtain ⟨kc, kf⟩ := hu1.at_ b (show b < W0.drew.heap.size from zb); obtain ⟨kx, -⟩ := hu1.at_ B (show B < W0.drew.heap.size from zB); have s0 := (kc 0).trans k0; have s1 := (kx 0).trans z0; have s2 := (kx 1).trans z1; have s3 := (kx 2).trans z2; have s4 := (kx 3).trans z3; have s5 := (kx 4).trans z4; have s6 := (kx 5).trans z5; have s7 := (kx 6).trans z6; have HU1 := Lib.hid hu1; clear hu1 kc kf kx))
  have h1 := H0.out.up (((Up.refl W0).drew).trans HU1.out)
  have k3' := h1.st.cell 3 (v := .slice Ae S.errs.length ce) rfl
  have f3' := h1.st.free 3
  have zb1 := h1.st.lt
  have HROW := Lib.hid h1.er
  have HST := Lib.hid h1.st
  have H1 := Lib.hid h1
  have HW1 := Lib.hid ((HU0.out.drew).trans HU1.out)
  clear h1 k3 f3 zb
  go_wp2_with (at_builtin; go_must (refine wpList_row rfl 61 rfl 27 i0 _ 1 8 Tryz.underlying61 hi hz0 hz1 hz2 rfl (by decide) rfl (HROW.out.up ((Up.refl _).alloc _)) rfl (reads_at w1 w1.heap.size 1 1 #[.int .i64 x] 27 rfl rfl) (one_err [x]) (by simp [maxLen]; omega) (by omega) ?_; intro A2 c2 w2 hr2 hg2 hb2; have st2 : St w2 121 b (ssVals bl bt At S.text.length ct Ae S.errs.length ce) := (HST.out.alloc _).grown hg2 (HROW.out.ne HST.out ne_ssE); have d0 := st2.cell 3 (v := .slice Ae S.errs.length ce) rfl; have e0 := st2.free 3; have zb2 := st2.lt; have ST2 := Lib.hid st2; have HR2 := Lib.hid hr2; have HG2 := Lib.hid hg2; clear st2 hr2 hg2 hb2))
  go_end0
  have hz2 : w1.heap.size ≤ w2.heap.size := by have := HG2.out.size; simp at this; omega
  have hk : Keep (Cp F own 0) w1 (w2.setCell ⟨b, 3, none⟩ (.slice A2 (S.errs.length + 1) c2)) := (((Keep.of_up ((Up.refl w1).alloc _)).trans (Keep.grown HG2.out (fun g hg => HROW.out.in_ g hg)))).setCell (p := ⟨b, 3, none⟩) (.inl H1.out.fb) _
  have hl : (S.errs ++ [x]).length = S.errs.length + 1 := by simp
  have htx := (H1.out.tx.keep ((Keep.of_up ((Up.refl w1).alloc (.cells #[.int .i64 x] 27))).trans (Keep.grown (F := fun g => blk Ae = some g) HG2.out (fun g hg => hg))) (fun g hg e => H1.out.tx.apart HROW.out ne_8E g hg e)).struct ST2.out ne_ss8 3 (.slice A2 (S.errs.length + 1) c2)
  obtain ⟨h3, hk3⟩ := H1.out.put_own (S' := { S with errs := S.errs ++ [x] }) (At' := At) (ct' := ct) (Ae' := A2) (ce' := c2) hk (by simpa [ssVals, hl] using ST2.out.set 3 (.slice A2 (S.errs.length + 1) c2)) (htx.mono (fun g hg => .inl hg)) (by
    simp only [hl, errV_app]
    exact (HR2.out.struct ST2.out ne_ssE 3 _).gr (fun g hg => hg.imp id (fun e => by rw [e]; simp))) rfl
  have zw1 := HW1.out.size
  refine ⟨rfl, ⟨_, _, _, _, _, _, h3.wide (fun k hk => hk.imp id (fun h => ⟨by omega, h.2⟩)) (Gr.lt HW.out.1 (Nat.le_trans zw1 hk3.size)) (gr_nt HW.out.2.1 HW.out.2.2)⟩, (Keep.of_up HW1.out).trans hk3⟩
end Go.Proofs.YtamfjgioajmnpaaGreatDoor
namespace Go.Proofs.YtamfjgioajmnpaaGreatDoor
open Go.RowKit
set_option linter.unusedVariables false
set_option linter.unusedSimpArgs false

/-- a session lies at b: its link, the rest -/
structure SesI (w : World) (b bl : Nat) (F Fl Fr : Nat → Prop) (L : LkT) (S : SsT) : Prop where
  ap : ∀ k, Fl k → ¬ Fr k
  lk : LkAt w bl Fl L
  ss : SsR b bl S Fr w
  fl : ∀ k, Fl k → F k
  fr : ∀ k, Fr k → F k
  lt : ∀ k, F k → k < w.heap.size
  nt : ¬ F 4
def SesAt (w : World) (b : Nat) (F : Nat → Prop) (L : LkT) (S : SsT) : Prop := ∃ bl Fl Fr, SesI w b bl F Fl Fr L S
section
variable {w w' w1 w2 : World} {b bl : Nat} {F Fl Fr E G : Nat → Prop} {L L' : LkT} {S S' : SsT}
theorem SsR.fb (h : SsR b bl S F w) : F b := by
  obtain ⟨_, _, _, _, _, _, h⟩ := h
  exact h.fb.1
theorem SsR.tab (h : SsR b bl S F w) : TabW w := by
  obtain ⟨_, _, _, _, _, _, h⟩ := h
  exact h.tab
theorem SesI.keep (h : SesI w b bl F Fl Fr L S) (hk : Keep E w w') (he : ∀ k, F k → ¬ E k) (hn : ¬ E 4) : SesI w' b bl F Fl Fr L S :=
  ⟨h.ap, h.lk.keep hk (fun k hk => he k (h.fl k hk)), h.ss.keep hk (fun k hk => he k (h.fr k hk)) hn, h.fl, h.fr, fun k hk' => by have := h.lt k hk'; have := hk.size; omega, h.nt⟩
theorem SesI.up (h : SesI w b bl F Fl Fr L S) (hu : Up w w') : SesI w' b bl F Fl Fr L S := h.keep (E := fun _ => False) (Keep.of_up hu) (fun _ _ h => h) (fun h => h)
theorem SesAt.lt (h : SesAt w b F L S) : ∀ k, F k → k < w.heap.size := by
  obtain ⟨_, _, _, h⟩ := h
  exact h.lt
theorem SesAt.keep (h : SesAt w b F L S) (hk : Keep E w w') (he : ∀ k, F k → ¬ E k) (hn : ¬ E 4) : SesAt w' b F L S := by
  obtain ⟨bl, Fl, Fr, h⟩ := h
  exact ⟨bl, Fl, Fr, h.keep hk he hn⟩
theorem SesAt.up (h : SesAt w b F L S) (hu : Up w w') : SesAt w' b F L S := h.keep (E := fun _ => False) (Keep.of_up hu) (fun _ _ h => h) (fun h => h)
theorem SesAt.wide (h : SesAt w b F L S) (hF : ∀ k, F k → G k) (hG : ∀ k, G k → k < w.heap.size) (hn : ¬ G 4) : SesAt w b G L S := by
  obtain ⟨bl, Fl, Fr, h⟩ := h
  exact ⟨bl, Fl, Fr, h.ap, h.lk, h.ss, fun k hk => hF k (h.fl k hk), fun k hk => hF k (h.fr k hk), hG, hn⟩
/-- the link's step -/
theorem SesI.put_lk (h : SesI w b bl F Fl Fr L S) (hl : LkAt w' bl (Gr Fl w w') L') (hk : Keep Fl w w') : SesI w' b bl (Gr F w w') (Gr Fl w w') Fr L' S ∧ Keep F w w' := by
  refine ⟨⟨fun k hk' hr => ?_, hl, h.ss.keep hk (fun k hr hl' => h.ap k hl' hr) (fun e => h.nt (h.fl _ e)), fun k hk' => hk'.imp (h.fl k) id, fun k hk' => .inl (h.fr k hk'), Gr.lt h.lt hk.size, gr_nt h.ss.tab h.nt⟩, hk.mono h.fl⟩
  rcases hk' with h1 | h1
  · exact h.ap k h1 hr
  · have := h.ss.lt k hr; omega
/-- a step of the rest -/
theorem SesI.put_ss (h : SesI w b bl F Fl Fr L S) (hs : SsR b bl S' (Gr Fr w w') w') (hk : Keep Fr w w') : SesI w' b bl (Gr F w w') Fl (Gr Fr w w') L S' ∧ Keep F w w' := by
  refine ⟨⟨fun k hl hk' => ?_, h.lk.keep hk (fun k hl hr => h.ap k hl hr), hs, fun k hk' => .inl (h.fl k hk'), fun k hk' => hk'.imp (h.fr k) id, Gr.lt h.lt hk.size, gr_nt h.ss.tab h.nt⟩, hk.mono h.fr⟩
  rcases hk' with h1 | h1
  · exact h.ap k hl h1
  · have := h.lk.lt k hl; omega
end
def SesPost (w : World) (b : Nat) (F : Nat → Prop) (L : LkT) (S : SsT) (v : Value) (e : Ending) (w' : World) : Prop := e = .returned v ∧ SesAt w' b (Gr F w w') L S ∧ Keep F w w'
/-- what the terminal makes of a key -/
def TKeyDo (T T' : TmT) (kd s n : Int) (pl : List Int) : Prop :=
  ∀ W bt Ft, TmAt W bt Ft T → Calls Tryz.prog 58 #[.pointer (some ⟨bt, 0, none⟩), .agg #[.int .i64 kd, .int .i32 s, .int .i64 n]] W fun e w' => ∃ A c, e = .returned (.tuple #[.slice A pl.length c, .int .i64 0]) ∧ TmAt w' bt (Gr Ft W w') T' ∧ Bt w' (fun g => W.heap.size ≤ g) A pl.length c pl ∧ Keep Ft W w'
def sendT (L : LkT) (pl : List Int) : LkT := if pl = [] then L else { L with out := L.out ++ (pl ++ [255, 239]) }
set_option maxRecDepth 100000 in
set_option maxHeartbeats 6400000 in
theorem skey_is {w : World} {b : Nat} {F : Nat → Prop} {L : LkT} {S : SsT} {T' : TmT} {kd s n : Int} {pl : List Int} (h : SesAt w b F L S) (hm : L.mode = 1) (hd : TKeyDo S.T T' kd s n pl) (h255 : (255 : Int) ∉ pl) (hn : pl.length ≤ 100000000) (ho : L.out.length ≤ 1000000000) :
    Calls Tryz.prog 16 #[.pointer (some ⟨b, 0, none⟩), .agg #[.int .i64 kd, .int .i32 s, .int .i64 n]] w (SesPost w b F (sendT L pl) { S with T := T' } (.int .i64 0)) := by
  obtain ⟨bl, Fl, Fr, h⟩ := h
  obtain ⟨bt, own, At, ct, Ae, ce, hs⟩ := h.ss
  obtain ⟨W0, hW0⟩ : ∃ W0, w.alloc (.cells #[.int .i64 kd, .int .i32 s, .int .i64 n] 44) = W0 := ⟨_, rfl⟩
  have hu0 : Up w W0 := by rw [← hW0]; exact (Up.refl w).alloc _
  have sb : St W0 44 w.heap.size [.int .i64 kd, .int .i32 s, .int .i64 n] := by rw [← hW0]; exact St.new w _ _ rfl
  have h0 := h.up hu0
  have hs0 := hs.up hu0
  have k0 := hs0.st.cell 0 (v := .pointer (some ⟨bl, 0, none⟩)) rfl
  have k1 := hs0.st.cell 1 (v := .pointer (some ⟨bt, 0, none⟩)) rfl
  have zb := hs0.st.lt
  have k0' := k0
  have zb' := zb
  rw [← hW0] at k0' zb'
  have z0 := sb.cell 0 (v := .int .i64 kd) rfl
  have z1 := sb.cell 1 (v := .int .i32 s) rfl
  have z2 := sb.cell 2 (v := .int .i64 n) rfl
  have zB := sb.lt
  obtain ⟨B, hB⟩ : ∃ B, w.heap.size = B := ⟨_, rfl⟩
  rw [hB] at z0 z1 z2 zB
  have HB := Lib.hid hB
  have HW0 := Lib.hid hW0
  have H0 := Lib.hid h0
  have HS0 := Lib.hid hs0
  have HU0 := Lib.hid hu0
  have HW := Lib.hid (And.intro h.lt (And.intro h.ss.tab h.nt))
  have HLM := Lib.hid (lmode_is h0.lk)
  rw [hm] at HLM
  have HDO := Lib.hid hd
  have HM := Lib.hid hm
  clear h h0 hs hs0 hu0 hW0 hB sb hd hm
  go_enter Tryz.func16, Tryz.ntmps16
  go_wp2_with fail
  rw [HW0.out]
  refine HLM.out.mono ?_
  rintro e w1 ⟨rfl, rfl⟩
  rw [HB.out]
  clear k0' zb'
  go_wp2_with fail
  have hbt : ¬ Fl b := fun e => H0.out.ap _ e H0.out.ss.fb
  have hdo := HDO.out W0.drew bt _ (HS0.out.tm.up (Up.refl W0).drew)
  have hbT : ¬ Cp Fr own 1 b := cp_no HS0.out.fb (by decide)
  have hBT : ¬ Cp Fr own 1 B := fun e => by have := HW.out.1 B (H0.out.fr _ e.1); have := HB.out; omega
  have HDD := Lib.hid hdo
  clear hdo hbt
  go_region_held_law (fun w' => w'.cell? ⟨b, 1, none⟩ = some (.pointer (some ⟨bt, 0, none⟩)) ∧ w'.cell? ⟨B, 0, none⟩ = some (.int .i64 kd) ∧ w'.cell? ⟨B, 1, none⟩ = some (.int .i32 s) ∧ w'.cell? ⟨B, 2, none⟩ = some (.int .i64 n)) (first | exact ⟨k1, z0, z1, z2⟩ | exact ⟨s0, s1, s2, s3⟩ | go_keep) ((go_simp; go_at_call 58; refine HDD.out.mono ?_; rintro e w2 ⟨A2, c2, rfl, ht2, hb2, hk2⟩; obtain ⟨kc, -⟩ := hk2.at_ b (show b < W0.drew.heap.size from zb) hbT; obtain ⟨kx, -⟩ := hk2.at_ B (show B < W0.drew.heap.size from zB) hBT; have s0 := (kc 1).trans k1; have s1 := (kx 0).trans z0; have s2 := (kx 1).trans z1; have s3 := (kx 2).trans z2; have s4 := (kc 0).trans k0; have HT2 := Lib.hid ht2; have HB2 := Lib.hid hb2; have HK2 := Lib.hid hk2; clear ht2 hb2 hk2 kc kx))
  obtain ⟨h2, hk2F⟩ := (HS0.out.up (Up.refl W0).drew).put_tm HK2.out HT2.out
  obtain ⟨h3, hk3⟩ := (H0.out.up (Up.refl W0).drew).put_ss ⟨_, _, _, _, _, _, h2⟩ hk2F
  have hu0d : Up w W0.drew := HU0.out.drew
  have zw0 := hu0d.size
  have zb2 := cell_lt s4
  have HK3 := Lib.hid ((Keep.of_up hu0d : Keep F w W0.drew).trans hk3)
  have H3 := Lib.hid h3
  have hFw : ∀ (w' : World), W0.drew.heap.size ≤ w'.heap.size → ∀ k, Gr F W0.drew w' k → Gr F w w' k := fun w' hz k hk => hk.imp id (fun h => ⟨Nat.le_trans zw0 h.1, h.2⟩)
  have HFW := Lib.hid hFw
  clear h2 hk2F h3 hk3 hFw hu0d
  by_cases hpl : pl = []
  · subst hpl
    have HE := Lib.hid (show sendT L [] = L from rfl)
    go_wp2_with fail
    go_ret
    rw [HE.out]
    have h4 := H3.out
    exact ⟨rfl, SesAt.wide ⟨_, _, _, h4⟩ (HFW.out _ (show W0.drew.heap.size ≤ w2.heap.size from HK2.out.size)) (Gr.lt HW.out.1 HK3.out.size) (gr_nt HW.out.2.1 HW.out.2.2), HK3.out⟩
  · have HE := Lib.hid (show sendT L pl = { L with out := L.out ++ (pl ++ [255, 239]) } by unfold sendT; rw [if_neg hpl])
    have hpos : (0 : Int) < (pl.length : Int) := by have := List.length_pos_iff.2 hpl; omega
    have HSE := Lib.hid (send1_is H3.out.lk HB2.out HM.out h255 hn ho)
    clear hpl
    go_wp2_with fail
    refine HSE.out.mono ?_
    rintro e w4 ⟨rfl, hl4, hk4⟩
    obtain ⟨h4, hk4F⟩ := H3.out.put_lk hl4 hk4
    have HF := Lib.hid (And.intro h4 hk4F)
    clear hl4 hk4 h4 hk4F
    go_wp2_with fail
    go_ret
    rw [HE.out]
    have z4 := HF.out.2.size
    have z2 : W0.drew.heap.size ≤ w2.heap.size := HK2.out.size
    refine ⟨rfl, SesAt.wide ⟨_, _, _, HF.out.1⟩ (fun k hk => ?_) (Gr.lt HW.out.1 (Nat.le_trans HK3.out.size z4)) (gr_nt HW.out.2.1 HW.out.2.2), HK3.out.gr (HF.out.2.mono (fun k hk => HFW.out _ z2 k hk))⟩
    rcases hk with hk | hk
    · exact (HFW.out _ z2 k hk).imp id (fun h => ⟨h.1, by omega⟩)
    · exact .inr ⟨by omega, hk.2⟩
def SOutPost (w : World) (b : Nat) (F : Nat → Prop) (L : LkT) (S : SsT) (e : Ending) (w' : World) : Prop :=
  ∃ A c G1 F1, e = .returned (.slice A L.out.length c) ∧ Bt w' G1 A L.out.length c L.out ∧ SesAt w' b F1 { L with out := [] } S ∧ (∀ k, F1 k → F k) ∧ (∀ k, G1 k → F k) ∧ (∀ k, F1 k → ¬ G1 k) ∧ Keep F w w' ∧ w'.heap.size = w.heap.size
theorem sout_is {w : World} {b : Nat} {F : Nat → Prop} {L : LkT} {S : SsT} (h : SesAt w b F L S) :
    Calls Tryz.prog 17 #[.pointer (some ⟨b, 0, none⟩)] w (SOutPost w b F L S) := by
  obtain ⟨bl, Fl, Fr, h⟩ := h
  obtain ⟨bt, own, At, ct, Ae, ce, hs⟩ := h.ss
  have k0 := hs.st.cell 0 (v := .pointer (some ⟨bl, 0, none⟩)) rfl
  have zb := hs.st.lt
  have H := Lib.hid h
  have HO := Lib.hid (lout_is h.lk)
  clear h hs
  go_enter Tryz.func17, Tryz.ntmps17
  go_wp2_with fail
  refine HO.out.mono ?_
  rintro e w1 ⟨A, c, G1, F1, rfl, hb, hl, h1, h2, h3, hk, hz⟩
  have HB := Lib.hid hb
  have HL := Lib.hid hl
  have HK := Lib.hid hk
  clear hb hl hk
  go_wp2_with fail
  go_ret
  have h := H.out
  refine ⟨A, c, G1, fun k => F k ∧ ¬ G1 k, rfl, HB.out, ⟨bl, F1, Fr, fun k hk hr => h.ap k (h1 k hk) hr, HL.out, h.ss.keep HK.out (fun k hr hl => h.ap k hl hr) (fun e => h.nt (h.fl _ e)), fun k hk => ⟨h.fl k (h1 k hk), h3 k hk⟩, fun k hk => ⟨h.fr k hk, fun e => h.ap k (h2 k e) hk⟩, fun k hk => by rw [hz]; exact h.lt k hk.1, fun e => h.nt e.1⟩, fun k hk => hk.1, fun k hk => h.fl k (h2 k hk), fun k hk => hk.2, HK.out.mono h.fl, hz⟩
theorem soptions_is {w : World} {b : Nat} {F : Nat → Prop} {L : LkT} {S : SsT} (h : SesAt w b F L S) :
    Calls Tryz.prog 32 #[.pointer (some ⟨b, 0, none⟩)] w fun e w' => (∃ bo, e = .returned (.pointer (some ⟨bo, 0, none⟩)) ∧ MAt w bo L.S L.G ∧ F bo ∧ okS L.S) ∧ w = w' := by
  obtain ⟨bl, Fl, Fr, h⟩ := h
  obtain ⟨bt, own, At, ct, Ae, ce, hs⟩ := h.ss
  have k0 := hs.st.cell 0 (v := .pointer (some ⟨bl, 0, none⟩)) rfl
  have zb := hs.st.lt
  have H := Lib.hid h
  have HO := Lib.hid (loptions_is h.lk)
  clear h hs
  go_enter Tryz.func32, Tryz.ntmps32
  go_wp2_with fail
  refine HO.out.mono ?_
  rintro e w1 ⟨⟨bo, rfl, h1, h2, h3⟩, rfl⟩
  have H1 := Lib.hid h1
  clear h1
  go_wp2_with fail
  go_ret
  exact ⟨⟨bo, rfl, H1.out, H.out.fl _ h2, h3⟩, rfl⟩
end Go.Proofs.YtamfjgioajmnpaaGreatDoor
namespace Go.Proofs.YtamfjgioajmnpaaGreatDoor
open Go.RowKit
set_option linter.unusedVariables false
set_option linter.unusedSimpArgs false

theorem counters_is (w : World) : Calls Tryz.prog 98 #[] w fun e w' => ∃ b, e = .returned (.pointer (some ⟨b, 0, none⟩)) ∧ TlAt w' b (fun i => w.heap.size ≤ i ∧ i < w'.heap.size) newTl ∧ Up w w' := by
  go_enter Tryz.func98, Tryz.ntmps98
  go_wp2_with fail
  refine (tnew_is (g := w.heap.size) (off := 0) (fun j v hv => ?_)).mono ?_
  · match j, hv with
    | 0, hv | 1, hv | 2, hv | 3, hv | 4, hv | 5, hv => cases hv; simp [go_sem, tG]
  rintro e w1 ⟨b, rfl, ht, hu⟩
  have HT := Lib.hid ht
  have HU := Lib.hid hu
  clear ht hu
  go_wp2_with fail
  go_ret
  exact ⟨b, rfl, HT.out.mono (fun i hi => by rcases hi with h | h; exact h.elim; simp at h; omega) (fun i hi => hi.2), Up.trans (by (repeat (first | with_reducible exact Up.refl _ | with_reducible refine Up.alloc ?_ _ | with_reducible refine Up.drew ?_ | with_reducible refine Up.drewN ?_ _ | with_reducible refine Up.setCell ?_ (by (try simp) <;> omega) _ | with_reducible assumption | with_reducible refine Up.trans ?_ (by assumption)))) HU.out⟩
set_option maxRecDepth 100000 in
set_option maxHeartbeats 3200000 in
theorem tmnew_is {m k : Int} {w : World} (h2 : 2 ≤ m) (h5 : m ≤ 5) (hk : isPage k = true) :
    Calls Tryz.prog 50 #[.int .i64 m, .int .i64 k] w fun e w' => ∃ b, e = .returned (.tuple #[.pointer (some ⟨b, 0, none⟩), .int .i64 0]) ∧ TmAt w' b (fun i => w.heap.size ≤ i ∧ i < w'.heap.size) ⟨newS m, k, 0, false, 96, newTl, 0⟩ ∧ Up w w' := by
  go_enter Tryz.func50, Tryz.ntmps50
  go_wp2_with fail
  refine (snew_is h2 h5).mono ?_
  rintro e w1 ⟨p, g, rfl, hp, hg, hs, hu1⟩
  have HS := Lib.hid hs
  have HU1 := Lib.hid hu1
  clear hs hu1
  go_wp2_with fail
  refine (pgnew_is k hk w1).mono ?_
  rintro e w2 ⟨pg, rfl, hpg, hu2⟩
  have HPG := Lib.hid hpg
  have HU2 := Lib.hid hu2
  clear hpg hu2
  go_wp2_with fail
  refine (knew_is p pg w2).mono ?_
  rintro e w3 ⟨rfl, hkb, hu3⟩
  have HKB := Lib.hid hkb
  have HU3 := Lib.hid hu3
  clear hkb hu3
  go_wp2_with fail
  refine (counters_is w3).mono ?_
  rintro e w4 ⟨tl, rfl, htl, hu4⟩
  have HTL := Lib.hid htl
  have HU4 := Lib.hid hu4
  clear htl hu4
  go_wp2_with fail
  go_ret2
  have z1 := HU1.out.size
  have z2 := HU2.out.size
  have z3 := HU3.out.size
  have z4 := HU4.out.size
  have zp := HS.out.lt
  have zg := HS.out.cells.2.1
  have zb := HKB.out.lt
  obtain ⟨w5, hw5⟩ : ∃ w5, (w4.alloc (.cells #[.pointer (some ⟨p, 0, none⟩), .pointer (some ⟨w2.heap.size, 0, none⟩), .pointer (some ⟨pg, 0, none⟩), .pointer (some ⟨tl, 0, none⟩), .int .i64 0, .slice none 0 0] 195)) = w5 := ⟨_, rfl⟩
  rw [hw5]
  have hu5 : Up w4 w5 := by rw [← hw5]; exact (Up.refl w4).alloc _
  have st : St w5 195 w4.heap.size (tmVals p w2.heap.size pg tl 0 none 0 0) := by rw [← hw5]; exact St.new w4 195 (tmVals p w2.heap.size pg tl 0 none 0 0) rfl
  have hz5 : w5.heap.size = w4.heap.size + 1 := by rw [← hw5]; simp
  have u35 := HU4.out.trans hu5
  have u25 := HU3.out.trans u35
  have u15 := HU2.out.trans u25
  refine ⟨w4.heap.size, rfl, ⟨fun i => if i < w1.heap.size then 1 else if i < w2.heap.size then 3 else if i < w3.heap.size then 2 else if i < w4.heap.size then 4 else 0, p, g, w2.heap.size, pg, tl, st, HKB.out.up u35, HS.out.up u15, ?_, (HPG.out.up u25).mono (fun i hi => ?_) (fun i hi => hi.1.2), (HTL.out.up hu5).mono (fun i hi => ?_) (fun i hi => hi.1.2), hk, ?_, ?_, ?_, ?_, fun i hi => hi.2⟩, HU1.out.trans u15⟩
  · exact newS_ok h2 h5
  · rcases hi with h | h
    · exact h.elim
    · refine ⟨⟨by omega, by omega⟩, ?_⟩
      simp only
      rw [if_neg (by omega), if_pos (by omega)]
  · refine ⟨⟨by omega, by omega⟩, ?_⟩
    simp only
    rw [if_neg (by omega), if_neg (by omega), if_neg (by omega), if_pos (by omega)]
  · refine ⟨⟨by omega, by omega⟩, ?_⟩
    simp only
    rw [if_neg (by omega), if_neg (by omega), if_neg (by omega), if_neg (by omega)]
  · refine ⟨⟨by omega, by omega⟩, ?_⟩
    simp only
    rw [if_pos (by omega)]
  · refine ⟨⟨by omega, by omega⟩, ?_⟩
    simp only
    rw [if_pos (by omega)]
  · refine ⟨⟨by omega, by omega⟩, ?_⟩
    simp only
    rw [if_neg (by omega), if_neg (by omega), if_pos (by omega)]
def newTm (m k : Int) : TmT := ⟨newS m, k, 0, false, 96, newTl, 0⟩
def newSs (m k : Int) : SsT := ⟨newTm m k, [], []⟩
set_option maxRecDepth 100000 in
set_option maxHeartbeats 6400000 in
theorem sesnew_is {s : ByteArray} {A : Option Addr} {n c : Nat} {l : List Int} {w : World} {G : Nat → Prop} {x : Bool} {m k : Int} (h : NameOk s) (hf : Bt w G A n c l) (hr : ∀ W, Up w W → Calls Tryz.prog 131 #[.slice A n c] W fun e w' => e = .returned (.bool true) ∧ W = w') (hn : n ≤ 60000) (h2 : 2 ≤ m) (h5 : m ≤ 5) (hk : isPage k = true) (ht : TabW w) :
    Calls Tryz.prog 10 #[.agg #[.string s, .string ⟨#[]⟩, .slice A n c, .bool x, .int .i64 m, .int .i64 k]] w fun e w' => ∃ b, e = .returned (.tuple #[.pointer (some ⟨b, 0, none⟩), .int .i64 0]) ∧ SesAt w' b (fun i => w.heap.size ≤ i ∧ i < w'.heap.size) (newLk s l x) (newSs m k) ∧ Up w w' := by
  obtain ⟨W0, hW0⟩ : ∃ W0, w.alloc (.cells #[.string s, .string ⟨#[]⟩, .slice A n c, .bool x, .int .i64 m, .int .i64 k] 35) = W0 := ⟨_, rfl⟩
  have hu0 : Up w W0 := by rw [← hW0]; exact (Up.refl w).alloc _
  have sb : St W0 35 w.heap.size [.string s, .string ⟨#[]⟩, .slice A n c, .bool x, .int .i64 m, .int .i64 k] := by rw [← hW0]; exact St.new w _ _ rfl
  have HL := Lib.hid (lnew_is (x := x) h (hf.up hu0) (fun W hW => hr W (hu0.trans hW)) hn)
  have HW0 := Lib.hid hW0
  have HU0 := Lib.hid hu0
  have SB := Lib.hid sb
  have HT := Lib.hid ht
  clear h hf hr hu0 hW0 sb ht
  go_enter Tryz.func10, Tryz.ntmps10
  go_wp2_with fail
  rw [HW0.out]
  refine HL.out.mono ?_
  rintro e w1 ⟨bl, rfl, hl, hu1⟩
  have s1 := SB.out.up hu1
  have c4 := s1.cell 4 (v := .int .i64 m) rfl
  have c5 := s1.cell 5 (v := .int .i64 k) rfl
  have z1 := s1.lt
  have HLK := Lib.hid hl
  have HU1 := Lib.hid (HU0.out.trans hu1)
  have HU01 := Lib.hid hu1
  clear hl hu1 s1
  go_wp2_with fail
  refine (tmnew_is h2 h5 hk).mono ?_
  rintro e w2 ⟨bt, rfl, htm, hu2⟩
  have HTM := Lib.hid htm
  have HU2 := Lib.hid hu2
  clear htm hu2 c4 c5
  go_wp2_with fail
  go_ret2
  obtain ⟨w3, hw3⟩ : ∃ w3, (w2.alloc (.cells #[.pointer (some ⟨bl, 0, none⟩), .pointer (some ⟨bt, 0, none⟩), .slice none 0 0, .slice none 0 0] 121)) = w3 := ⟨_, rfl⟩
  rw [hw3]
  have hu3 : Up w2 w3 := by rw [← hw3]; exact (Up.refl w2).alloc _
  have st : St w3 121 w2.heap.size (ssVals bl bt none 0 0 none 0 0) := by rw [← hw3]; exact St.new w2 _ _ rfl
  have hz3 : w3.heap.size = w2.heap.size + 1 := by rw [← hw3]; simp
  have z0 := HU0.out.size
  have z01 := HU01.out.size
  have z2 := HU2.out.size
  have hw : Up w w3 := (HU1.out.trans HU2.out).trans hu3
  have htab := HT.out.lt
  refine ⟨w2.heap.size, rfl, ⟨bl, fun i => W0.heap.size ≤ i ∧ i < w1.heap.size, fun i => w1.heap.size ≤ i ∧ i < w3.heap.size, fun i h1 h2 => by omega, HLK.out.up (HU2.out.trans hu3), ⟨bt, fun i => if i < w2.heap.size then 1 else 0, none, 0, none, 0, st, (HTM.out.up hu3).wide (fun i hi => ⟨⟨hi.1, by omega⟩, ?_⟩) (fun i hi => hi.1.2), Row.none_, Row.none_, ⟨⟨by omega, by omega⟩, ?_⟩, fun i hi => hi.2, HT.out.up hw, fun e => by omega⟩, fun i hi => ⟨by omega, by omega⟩, fun i hi => ⟨by omega, hi.2⟩, fun i hi => hi.2, fun e => by omega⟩, hw⟩
  · show (if i < w2.heap.size then 1 else 0) = 1
    rw [if_pos hi.2]
  · show (if w2.heap.size < w2.heap.size then 1 else 0) = 0
    rw [if_neg (by omega)]
end Go.Proofs.YtamfjgioajmnpaaGreatDoor
