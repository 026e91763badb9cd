/-
What a sender of a read holds; an address and a character sent. Conditions: that not too much has been sent.
field's Places as an iterator. It writes the box of its start. No condition.
-/
import Derived.Test.YtamfjgioajmnpaaGreatDoorJa2
import Derived.Test.YtamfjgioajmnpaaGreatDoorJa13
import Derived.Test.YtamfjgioajmnpaaGreatDoorJa28
import Derived.Test.YtamfjgioajmnpaaGreatDoorJa5
import Derived.Deep.DeepMust
import Derived.Deep.RegionLaw
import Derived.Test.YtamfjgioajmnpaaGreatDoorJa11
namespace Go.Proofs.YtamfjgioajmnpaaGreatDoor
open Go.RowKit
set_option linter.unusedVariables false
set_option linter.unusedSimpArgs false

def snVals (A : Option Addr) (n c : Nat) (k : Cl) (m : Int) : List Value := [.slice A n c, .int .u8 k.ch, .bool k.at_, .int .u8 k.fa, .int .u8 k.hi, .int .u8 k.co, .int .u8 k.se, .int .i64 m]
theorem ne_sn8 : 326 ≠ 5 := by decide
structure SnI (w : World) (b : Nat) (F : Nat → Prop) (o : List Int) (k : Cl) (m : Int) (A : Option Addr) (c : Nat) : Prop where
  st : St w 326 b (snVals A o.length c k m)
  row : Row 5 1 w F A o.length c (bs o)
  bl : BL o
  fb : F b
  lt : ∀ i, F i → i < w.heap.size
/-- a sender lies there: what it has sent -/
def SnA (w : World) (b : Nat) (F : Nat → Prop) (o : List Int) (k : Cl) (m : Int) : Prop := ∃ A c, SnI w b F o k m A c
section
variable {w w' : World} {b : Nat} {F G E : Nat → Prop} {o : List Int} {k : Cl} {m : Int}
theorem SnA.keep (h : SnA w b F o k m) (hk : Keep E w w') (he : ∀ i, F i → ¬ E i) : SnA w' b F o k m := by
  obtain ⟨A, c, h⟩ := h
  exact ⟨A, c, h.st.keep hk (he _ h.fb), h.row.keep hk (fun g hg => he g (h.row.in_ g hg)), h.bl, h.fb, fun i hi => by have := h.lt i hi; have := hk.size; omega⟩
theorem SnA.up (h : SnA w b F o k m) (hu : Up w w') : SnA w' b F o k m := h.keep (E := fun _ => False) (Keep.of_up hu) (fun _ _ h => h)
theorem SnA.wide (h : SnA w b F o k m) (hF : ∀ i, F i → G i) (hG : ∀ i, G i → i < w.heap.size) : SnA w b G o k m := by
  obtain ⟨A, c, h⟩ := h
  exact ⟨A, c, h.st, h.row.mono hF, h.bl, hF _ h.fb, hG⟩
theorem SnA.lt (h : SnA w b F o k m) : ∀ i, F i → i < w.heap.size := by
  obtain ⟨A, c, h⟩ := h
  exact h.lt
end
theorem BL1 {x : Int} (h : 0 ≤ x ∧ x ≤ 255) : BL [x] := BL.cons h BL.nil
/-- what a step of a sender leaves -/
def SnPost (w : World) (b : Nat) (F : Nat → Prop) (o : List Int) (k : Cl) (m : Int) (e : Ending) (w' : World) : Prop := e = .returned (.tuple #[]) ∧ SnA w' b (Gr F w w') o k m ∧ Keep F w w'
/-- behind an append to what was sent -/
theorem SnI.push {w w1 : World} {b : Nat} {F : Nat → Prop} {o l : List Int} {k : Cl} {m : Int} {A A2 : Option Addr} {c c2 n2 : Nat} {s : List Value} (hs : St w1 326 b s) (hse : s = snVals A o.length c k m) (hlt : ∀ i, F i → i < w.heap.size) (fb : F b) (hz : w.heap.size ≤ w1.heap.size) (hr : Row 5 1 w1 (fun g => F g ∨ w.heap.size ≤ g) A2 n2 c2 (bs o ++ bs l)) (hn : n2 = o.length + l.length) (hbo : BL o) (hbl : BL l) :
    SnI (w1.setCell ⟨b, 0, none⟩ (.slice A2 n2 c2)) b (Gr F w (w1.setCell ⟨b, 0, none⟩ (.slice A2 n2 c2))) (o ++ l) k m A2 c2 := by
  subst hse
  have hz1 : (w1.setCell ⟨b, 0, none⟩ (.slice A2 n2 c2)).heap.size = w1.heap.size := by simp [World.setCell]
  have hl : (o ++ l).length = n2 := by rw [List.length_append, hn]
  have hr2 := (hr.struct hs ne_sn8 0 (.slice A2 n2 c2)).gr (F := F) (w := w) (fun g hg => hg)
  rw [← bs_app] at hr2
  refine ⟨?_, by rw [hl]; exact hr2, hbo.app hbl, .inl fb, Gr.lt hlt (by rw [hz1]; exact hz)⟩
  have h2 := hs.set 0 (.slice A2 n2 c2)
  rw [hl]
  exact h2
set_option maxRecDepth 100000 in
set_option maxHeartbeats 3200000 in
theorem snaddr_is {w : World} {b : Nat} {F : Nat → Prop} {o : List Int} {k : Cl} {m n : Int} (h : SnA w b F o k m) (hn0 : 0 ≤ n) (hn : n ≤ 4095) (ho : o.length ≤ 1000000) :
    Calls Tryz.prog 210 #[.pointer (some ⟨b, 0, none⟩), .int .i64 n] w (SnPost w b F (o ++ encL 12 n) k m) := by
  obtain ⟨i0, hi, hz0, hz1, hz2⟩ := info_parts info_u8
  obtain ⟨A, c, h⟩ := h
  have hel : (encL 12 n).length = 2 := encL_len _ _
  have hbe : BL (encL 12 n) := by
    unfold encL
    rw [if_pos rfl]
    exact BL.cons (sixOf_bd _) (BL.cons (sixOf_bd _) BL.nil)
  have HBE := Lib.hid hbe
  have H := Lib.hid h
  clear h hbe
  go_enter Tryz.func210, Tryz.ntmps210
  go_wp2_with fail
  refine (encode_ok 12 n w (by simp [bitsB]) hn0 (by simpa [mostOf] using hn)).mono ?_
  rintro e w1 ⟨A1, c1, rfl, hm1, hu1⟩
  have st1 := H.out.st.up hu1
  have k0 := st1.cell 0 (v := .slice A o.length c) rfl
  have f0 := st1.free 0
  have zb := st1.lt
  have HU1 := Lib.hid hu1
  have HM1 := Lib.hid hm1.reads
  clear hu1 hm1 st1
  go_wp2_with (at_builtin; go_must (refine wpList_row rfl 30 rfl 5 i0 _ 1 1 Tryz.underlying30 hi hz0 hz1 hz2 rfl (by decide) rfl (H.out.row.up HU1.out) rfl HM1.out (one_bs (encL 12 n)) (by simp [maxLen]; omega) (by omega) ?_; intro A2 c2 w2 hr2 hg2 hb2; have st2 : St w2 326 b (snVals A o.length c k m) := (H.out.st.up HU1.out).grown hg2 (H.out.row.ne H.out.st ne_sn8); have d0 := st2.cell 0 (v := .slice A o.length c) rfl; have e0 := st2.free 0; have zb2 := st2.lt; have ST2 := Lib.hid st2; have HR2 := Lib.hid hr2; have HG2 := Lib.hid hg2; clear st2 hr2 hg2 hb2))
  go_end0
  have hk : Keep F w (w2.setCell ⟨b, 0, none⟩ (.slice A2 (o.length + 2) c2)) := ((Keep.of_up HU1.out).trans (Keep.grown HG2.out (fun g hg => H.out.row.in_ g hg))).setCell (p := ⟨b, 0, none⟩) (.inl H.out.fb) _
  have hz : w.heap.size ≤ w2.heap.size := Nat.le_trans HU1.out.size HG2.out.size
  exact ⟨rfl, ⟨_, _, SnI.push ST2.out rfl H.out.lt H.out.fb hz (HR2.out.mono (fun g hg => hg.imp id (fun e => by rw [e]; exact HU1.out.size))) (by rw [encL_len]) H.out.bl HBE.out⟩, hk⟩
/-- a code as it is sent -/
def codeB (c : Int) : Int := if isOrd c then 63 else c
theorem codeB_bd {c : Int} (h : 0 ≤ c ∧ c ≤ 255) : 0 ≤ codeB c ∧ codeB c ≤ 255 := by unfold codeB; split <;> omega
set_option maxRecDepth 100000 in
set_option maxHeartbeats 3200000 in
theorem snchar_is {w : World} {b : Nat} {F : Nat → Prop} {o : List Int} {k d : Cl} {m : Int} (h : SnA w b F o k m) (hm : (m == 2) = false) (hd : d.Wf) (hse : (d.se == 241) = false) (ho : o.length ≤ 1000000) :
    Calls Tryz.prog 259 #[.pointer (some ⟨b, 0, none⟩), d.val] w (SnPost w b F (o ++ [codeB d.ch]) k m) := by
  obtain ⟨i0, hi, hz0, hz1, hz2⟩ := info_parts info_u8
  obtain ⟨A, c, h⟩ := h
  have HBE := Lib.hid (BL1 (codeB_bd hd.ch))
  have H := Lib.hid h
  have hIs := fun W => is_is (x := d.ch) (w := W) hd.ch
  have st1 := h.st.up ((Up.refl w).alloc (.cells #[.int .u8 d.ch, .bool d.at_, .int .u8 d.fa, .int .u8 d.hi, .int .u8 d.co, .int .u8 d.se] 99))
  have k0 := st1.cell 0 (v := .slice A o.length c) rfl
  have k7 := st1.cell 7 (v := .int .i64 m) rfl
  have f0 := st1.free 0
  have zb := st1.lt
  have hz0' : w.heap.size ≤ (w.alloc (.cells #[.int .u8 d.ch, .bool d.at_, .int .u8 d.fa, .int .u8 d.hi, .int .u8 d.co, .int .u8 d.se] 99)).heap.size := by simp
  have HIS := Lib.hid hIs
  cases hio : isOrd d.ch
  · have HCB := Lib.hid (show codeB d.ch = d.ch by unfold codeB; rw [hio]; rfl)
    rw [hio] at HIS
    rw [HCB.out] at HBE
    clear st1 h hio hIs hd
    simp only [Cl.val]
    go_enter Tryz.func259, Tryz.ntmps259
    go_wp2_with fail
    refine (HIS.out _).mono ?_
    rintro e w1 ⟨rfl, rfl⟩
    go_wp2_with (at_builtin; go_must (refine wpList_row rfl 30 rfl 5 i0 _ 1 1 Tryz.underlying30 hi hz0 hz1 hz2 rfl (by decide) rfl (H.out.row.up (((Up.refl w).alloc _).alloc _)) rfl (reads_at (w.alloc (.cells #[.int .u8 d.ch, .bool d.at_, .int .u8 d.fa, .int .u8 d.hi, .int .u8 d.co, .int .u8 d.se] 99)) (w.heap.size + 1) 1 1 #[.int .u8 d.ch] 5 rfl (by simp)) (one_bs [d.ch]) (by simp [maxLen]; omega) (by omega) ?_; intro A2 c2 w2 hr2 hg2 hb2; have st2 : St w2 326 b (snVals A o.length c k m) := (H.out.st.up (((Up.refl w).alloc _).alloc _)).grown hg2 (H.out.row.ne H.out.st ne_sn8); have d0 := st2.cell 0 (v := .slice A o.length c) rfl; have e0 := st2.free 0; have zb2 := st2.lt; have ST2 := Lib.hid st2; have HR2 := Lib.hid hr2; have HG2 := Lib.hid hg2; clear st2 hr2 hg2 hb2))
    go_end0
    rw [HCB.out]
    have hu2 : Up w ((w.alloc (.cells #[.int .u8 d.ch, .bool d.at_, .int .u8 d.fa, .int .u8 d.hi, .int .u8 d.co, .int .u8 d.se] 99)).alloc (.cells #[.int .u8 d.ch] 5)) := ((Up.refl w).alloc _).alloc _
    have hk : Keep F w (w2.setCell ⟨b, 0, none⟩ (.slice A2 (o.length + 1) c2)) := ((Keep.of_up hu2).trans (Keep.grown HG2.out (fun g hg => H.out.row.in_ g hg))).setCell (p := ⟨b, 0, none⟩) (.inl H.out.fb) _
    have hz : w.heap.size ≤ w2.heap.size := Nat.le_trans hu2.size HG2.out.size
    exact ⟨rfl, ⟨_, _, SnI.push (l := [d.ch]) ST2.out rfl H.out.lt H.out.fb hz (HR2.out.mono (fun g hg => hg.imp id (fun e => by rw [e]; exact hu2.size))) rfl H.out.bl HBE.out⟩, hk⟩
  · have HCB := Lib.hid (show codeB d.ch = 63 by unfold codeB; rw [hio]; rfl)
    rw [hio] at HIS
    rw [HCB.out] at HBE
    clear st1 h hio hIs hd
    simp only [Cl.val]
    go_enter Tryz.func259, Tryz.ntmps259
    go_wp2_with fail
    refine (HIS.out _).mono ?_
    rintro e w1 ⟨rfl, rfl⟩
    go_wp2_with (at_builtin; go_must (refine wpList_row rfl 30 rfl 5 i0 _ 1 1 Tryz.underlying30 hi hz0 hz1 hz2 rfl (by decide) rfl (H.out.row.up (((Up.refl w).alloc _).alloc _)) rfl (reads_at (w.alloc (.cells #[.int .u8 d.ch, .bool d.at_, .int .u8 d.fa, .int .u8 d.hi, .int .u8 d.co, .int .u8 d.se] 99)) (w.heap.size + 1) 1 1 #[.int .u8 63] 5 rfl (by simp)) (one_bs [63]) (by simp [maxLen]; omega) (by omega) ?_; intro A2 c2 w2 hr2 hg2 hb2; have st2 : St w2 326 b (snVals A o.length c k m) := (H.out.st.up (((Up.refl w).alloc _).alloc _)).grown hg2 (H.out.row.ne H.out.st ne_sn8); have d0 := st2.cell 0 (v := .slice A o.length c) rfl; have e0 := st2.free 0; have zb2 := st2.lt; have ST2 := Lib.hid st2; have HR2 := Lib.hid hr2; have HG2 := Lib.hid hg2; clear st2 hr2 hg2 hb2))
    go_end0
    rw [HCB.out]
    have hu2 : Up w ((w.alloc (.cells #[.int .u8 d.ch, .bool d.at_, .int .u8 d.fa, .int .u8 d.hi, .int .u8 d.co, .int .u8 d.se] 99)).alloc (.cells #[.int .u8 63] 5)) := ((Up.refl w).alloc _).alloc _
    have hk : Keep F w (w2.setCell ⟨b, 0, none⟩ (.slice A2 (o.length + 1) c2)) := ((Keep.of_up hu2).trans (Keep.grown HG2.out (fun g hg => H.out.row.in_ g hg))).setCell (p := ⟨b, 0, none⟩) (.inl H.out.fb) _
    have hz : w.heap.size ≤ w2.heap.size := Nat.le_trans hu2.size HG2.out.size
    exact ⟨rfl, ⟨_, _, SnI.push (l := [63]) ST2.out rfl H.out.lt H.out.fb hz (HR2.out.mono (fun g hg => hg.imp id (fun e => by rw [e]; exact hu2.size))) rfl H.out.bl HBE.out⟩, hk⟩
set_option maxRecDepth 100000 in
theorem snsome_is {w : World} {b : Nat} {F : Nat → Prop} {o : List Int} {k d : Cl} {m : Int} (h : SnA w b F o k m) (hm : (m == 2) = false) (hd : d.Wf) (hse : (d.se == 241) = false) (ho : o.length ≤ 1000000) :
    Calls Tryz.prog 208 #[.pointer (some ⟨b, 0, none⟩), d.val] w (SnPost w b F (o ++ if d.ch = 0 then [] else [codeB d.ch]) k m) := by
  have hu0 : Up w (w.alloc (.cells #[.int .u8 d.ch, .bool d.at_, .int .u8 d.fa, .int .u8 d.hi, .int .u8 d.co, .int .u8 d.se] 99)) := (Up.refl w).alloc _
  have HCH := Lib.hid (snchar_is (h.up hu0) hm hd hse ho)
  have H := Lib.hid h
  have HLT := Lib.hid h.lt
  cases h0 : (d.ch != 0)
  · have h00 : d.ch = 0 := by simpa using h0
    rw [if_pos h00, List.append_nil]
    clear h h00
    simp only [Cl.val]
    go_enter Tryz.func208, Tryz.ntmps208
    go_wp2_with fail
    go_end0
    exact ⟨rfl, (H.out.up hu0).wide (fun i hi => .inl hi) (Gr.lt HLT.out hu0.size), Keep.of_up hu0⟩
  · have h00 : ¬ d.ch = 0 := by simpa using h0
    rw [if_neg h00]
    clear h h00
    simp only [Cl.val] at *
    go_enter Tryz.func208, Tryz.ntmps208
    go_wp2_with fail
    refine HCH.out.mono ?_
    rintro e w1 ⟨rfl, h1, hk1⟩
    have HF := Lib.hid (And.intro h1 hk1)
    clear h1 hk1
    go_wp2_with fail
    go_end0
    exact ⟨rfl, HF.out.1.wide (fun i hi => hi.imp id (fun h => ⟨by have := hu0.size; omega, h.2⟩)) (Gr.lt HLT.out (Nat.le_trans hu0.size HF.out.2.size)), (Keep.of_up hu0).trans HF.out.2⟩
set_option maxRecDepth 100000 in
/-- a sender as it begins, where the cursor's address goes ahead -/
theorem snbegin_is {w : World} {p g : Nat} {X : Spc} {aid m : Int} (hs : SAt w p g X) (ok : X.Ok) (ha : 0 ≤ aid ∧ aid ≤ 255) (hm : 0 ≤ m ∧ m ≤ 2) (hc : X.cur ≤ 4095) :
    Calls Tryz.prog 205 #[.pointer (some ⟨p, 0, none⟩), .int .u8 aid, .int .i64 m, .bool false] w fun e w' => ∃ b, e = .returned (.tuple #[.pointer (some ⟨b, 0, none⟩), .int .i64 0]) ∧ SnA w' b (fun i => w.heap.size ≤ i ∧ i < w'.heap.size) (aid :: encL 12 X.cur) Cl.zero m ∧ Up w w' := by
  obtain ⟨m0, m2⟩ := hm
  have hnot : ∀ (x : Bool) (w : World), (Op.unary .not (.bool x)).run Tryz.prog w = .ok (.bool (!x)) w := fun _ _ => rfl
  have H := Lib.hid hs
  have HB := Lib.hid (BL1 ha)
  have hcb := ok.cur0
  have HCB := Lib.hid hcb
  clear hs ok ha hcb
  go_enter Tryz.func205, Tryz.ntmps205
  go_wp2_with fail
  have hu0 : Up w ((w.alloc (.cells #[.int .u8 aid] 5)).alloc (.cells #[.slice (some ⟨w.heap.size, 0, none⟩) 1 1, .int .u8 0, .bool false, .int .u8 0, .int .u8 0, .int .u8 0, .int .u8 0, .int .i64 m] 326)) := ((Up.refl w).alloc _).alloc _
  have hst : St ((w.alloc (.cells #[.int .u8 aid] 5)).alloc (.cells #[.slice (some ⟨w.heap.size, 0, none⟩) 1 1, .int .u8 0, .bool false, .int .u8 0, .int .u8 0, .int .u8 0, .int .u8 0, .int .i64 m] 326)) 326 (w.heap.size + 1) (snVals (some ⟨w.heap.size, 0, none⟩) 1 1 Cl.zero m) := by
    have := St.new (w.alloc (.cells #[.int .u8 aid] 5)) 326 (snVals (some ⟨w.heap.size, 0, none⟩) 1 1 Cl.zero m) rfl
    rwa [World.size_alloc] at this
  have hlit : Row 5 1 (w.alloc (.cells #[.int .u8 aid] 5)) (fun k => w.heap.size ≤ k) (some ⟨w.heap.size, 0, none⟩) 1 1 (bs [aid]) := ⟨own_base (World.ownsRow_lit w #[.int .u8 aid] 1 (Nat.le_refl _) (by simp [maxLen]) rfl) (Nat.zero_le _), by omega, by simp [maxLen], fun g hg => by simp [blk] at hg; omega⟩
  have hlit2 := hlit.up ((Up.refl _).alloc (.cells #[.slice (some ⟨w.heap.size, 0, none⟩) 1 1, .int .u8 0, .bool false, .int .u8 0, .int .u8 0, .int .u8 0, .int .u8 0, .int .i64 m] 326))
  have hz0 : ((w.alloc (.cells #[.int .u8 aid] 5)).alloc (.cells #[.slice (some ⟨w.heap.size, 0, none⟩) 1 1, .int .u8 0, .bool false, .int .u8 0, .int .u8 0, .int .u8 0, .int .u8 0, .int .i64 m] 326)).heap.size = w.heap.size + 2 := by simp
  clear hlit
  generalize ((w.alloc (.cells #[.int .u8 aid] 5)).alloc (.cells #[.slice (some ⟨w.heap.size, 0, none⟩) 1 1, .int .u8 0, .bool false, .int .u8 0, .int .u8 0, .int .u8 0, .int .u8 0, .int .i64 m] 326)) = W0 at *
  have hsn : SnA W0 (w.heap.size + 1) (fun i => w.heap.size ≤ i ∧ i < W0.heap.size) [aid] Cl.zero m := ⟨_, _, hst, ⟨hlit2.own, hlit2.le, hlit2.mx, fun g hg => ⟨hlit2.in_ g hg, hlit2.lt hg⟩⟩, HB.out, ⟨by omega, by omega⟩, fun i hi => hi.2⟩
  have HSN := Lib.hid hsn
  have HU0 := Lib.hid hu0
  clear hst hlit2 hsn hu0
  refine (scur_is (H.out.up HU0.out)).mono ?_
  rintro e w1 ⟨rfl, rfl⟩
  go_wp2_with fail
  refine (snaddr_is HSN.out HCB.out hc (by simp)).mono ?_
  rintro e w2 ⟨rfl, h2, hk2⟩
  have HF := Lib.hid (And.intro h2 hk2)
  clear h2 hk2
  go_wp2_with fail
  go_ret2
  have z2 := HF.out.2.size
  refine ⟨_, rfl, HF.out.1.wide (fun i hi => by rcases hi with h | h; exact ⟨h.1, by omega⟩; exact ⟨by omega, h.2⟩) (fun i hi => hi.2), HU0.out.keep HF.out.2 (fun i hi => hi.1)⟩
end Go.Proofs.YtamfjgioajmnpaaGreatDoor
namespace Go.Proofs.YtamfjgioajmnpaaGreatDoor
open Go.RowKit Go.Shelf
set_option linter.unusedVariables false
set_option linter.unusedSimpArgs false
attribute [local go_sem] Oper.semAt_some

/-- as large, and its attributes where the other's are -/
structure Alike (X Y : Spc) : Prop where
  r : Y.r = X.r
  c : Y.c = X.c
  at_ : ∀ n, Y.isA n = X.isA n
theorem Alike.refl (X : Spc) : Alike X X := ⟨rfl, rfl, fun _ => rfl⟩
/-- a space like X, and the box with its place -/
def SeeP (X : Spc) (p b : Nat) (W : World) : Prop := ∃ g Y, SAt W p g Y ∧ Y.Ok ∧ Alike X Y ∧ W.cell? ⟨b, 0, none⟩ = some (.pointer (some ⟨p, 0, none⟩))
theorem enters_places : ∀ args w, (callFunc 262 args).run Tryz.prog w = .ok (.enter 262 args) w := enters_of Tryz.func262 (by kernel_rfl) rfl
theorem stepsL_pre {X : Spc} {a : Int} {j n : Nat} (h : j ≤ n) : stepsL X a j <+: stepsL X a n := by
  induction n with
  | zero => obtain rfl : j = 0 := by omega
            exact List.prefix_refl _
  | succ n ih =>
    rcases Nat.lt_or_ge n j with h1 | h1
    · obtain rfl : j = n + 1 := by omega
      exact List.prefix_refl _
    · rw [stepsL_succ]; exact (ih h1).trans (List.prefix_append _ _)
theorem places_pre {X : Spc} {a : Int} {j : Nat} (h : X.isA a = true) (hj : j < X.cnt a) : stepsL X a j ++ [(a + 1 + j) % (X.r * X.c)] <+: X.places a := by
  unfold Spc.places
  rw [if_pos h, ← stepsL_succ]
  exact stepsL_pre (by omega)
theorem see_at {X Y : Spc} {W : World} {p g : Nat} (hal : Alike X Y) (hs : SAt W p g Y) (ok : Y.Ok) (n : Int) : Calls Tryz.prog 42 #[.pointer (some ⟨p, 0, none⟩), .int .i64 n] W fun e w' => (∃ ch fa hi co se : Int, e = .returned (.agg #[.int .u8 ch, .bool (X.isA n), .int .u8 fa, .int .u8 hi, .int .u8 co, .int .u8 se])) ∧ Up W w' := by
  refine (sat_op n hs ok rfl).mono ?_
  rintro e w' ⟨rfl, hu⟩
  refine ⟨⟨(Y.at_ n).ch, (Y.at_ n).fa, (Y.at_ n).hi, (Y.at_ n).co, (Y.at_ n).se, ?_⟩, hu⟩
  rw [← hal.at_ n]; rfl
set_option maxRecDepth 100000 in
set_option maxHeartbeats 6400000 in
theorem places_it {X : Spc} (ok : X.Ok) {p b b2 : Nat} {a : Int} : ItN Tryz.prog 262 #[.pointer (some ⟨b, 0, none⟩), .pointer (some ⟨b2, 0, none⟩)] (fun x : Int => #[.int .i64 x]) (fun k => k = b2) (fun W => W.cell? ⟨b2, 0, none⟩ = some (.int .i64 a) ∧ W.frozen? ⟨b2, 0, none⟩ = false) (SeeP X p b) (fun pre x _ => pre ++ [x] <+: X.places a) (· = X.places a) (· <+: X.places a) := by
  intro k l J Jx N0 W hJ hJx hV hT hNz hV0 hY h0
  refine callsIn_of_wp Tryz.func262 rfl trivial ?_ rfl
  simp only [Tryz.ntmps262, List.size_toArray, List.length_cons, List.length_nil, Nat.reduceAdd, Nat.reduceSub, Array.replicate_succ, Array.replicate_zero, List.push_toArray, List.append_toArray, List.nil_append, List.cons_append]
  obtain ⟨g, Y, hs, okY, hal, hb⟩ := hV _ _ _ h0
  obtain ⟨q1, q2⟩ := hV0
  have zb := cell_lt hb
  have zb2 := cell_lt q1
  simp only at zb zb2
  have hNb2 : N0 b2 := hT _ rfl
  have HSZ := Lib.hid (ssize_is hs)
  rw [hal.r, hal.c] at HSZ
  have HV := Lib.hid ok.valid
  have HWG := Lib.hid (fun n W => wrap_good X.r X.c n W HV.out)
  have hm0 := Spc.pos ok
  have hln := ok.len
  have hsm := ok.small
  have HY := Lib.hid hY
  have HJ := Lib.hid hJ
  have HJx := Lib.hid hJx
  have HVV := Lib.hid hV
  have H0 := Lib.hid h0
  have HNZ := Lib.hid hNz
  have HOK := Lib.hid ok
  clear hY hJ hJx hV h0 hT hNz hs okY hal ok
  refine wpIn_wide.2 ?_
  go_wp2_with fail
  refine HSZ.out.mono ?_
  rintro e w1 ⟨rfl, hu1⟩
  have z1 := hu1.size
  have b1 := ((hu1.at_ b zb).1 0).trans hb
  have d1 := ((hu1.at_ b2 zb2).1 0).trans q1
  have f1 := ((hu1.at_ b2 zb2).2 0).trans q2
  have zb' : b < w1.heap.size := by omega
  have zb2' : b2 < w1.heap.size := by omega
  clear hb q1 q2
  go_wp2_with fail
  refine (HWG.out a _).mono ?_
  rintro e w2 ⟨rfl, hu2⟩
  have z2 := hu2.size
  simp at z2
  have hb2 := hu2.at_ w1.heap.size (by simp)
  have k0 := (hb2.1 0).trans (by simp [go_sem] : _ = some (.int .i64 X.r))
  have k1 := (hb2.1 1).trans (by simp [go_sem] : _ = some (.int .i64 X.c))
  have hbb := hu2.at_ b (by simp; omega)
  have hbd := hu2.at_ b2 (by simp; omega)
  have b3 := (hbb.1 0).trans (by simpa [go_sem, World.cell?_alloc_lt _ _ ⟨b, 0, none⟩ zb'] using b1 : _ = some (.pointer (some ⟨p, 0, none⟩)))
  have d3 := (hbd.1 0).trans (by simpa [go_sem, World.cell?_alloc_lt _ _ ⟨b2, 0, none⟩ zb2'] using d1 : _ = some (.int .i64 a))
  have f3 := (hbd.2 0).trans ((((Up.refl w1).alloc _).at_ b2 zb2').2 0 |>.trans f1)
  have hne : b ≠ b2 := fun e => by subst e; rw [b3] at d3; cases d3
  have HJ2 := Lib.hid (show J (fun k => N0 k ∨ k = w1.heap.size) [] (w2.setCell ⟨b2, 0, none⟩ (.int .i64 (a % (X.r * X.c)))) from HJ.out _ _ _ _ _ H0.out (((Keep.of_up (hu1.trans (((Up.refl w1).alloc _).trans hu2)))).setCell (.inl hNb2) _) (fun k hk => by
    rcases hk with h | rfl
    · exact .inl h
    · exact .inr ⟨z1, by simp [World.setCell]; omega⟩))
  have hfz : (w2.alloc (.cells #[] 0)).heap.size = w2.heap.size + 1 := by simp
  obtain ⟨W3, hW3⟩ : ∃ W3, w2.setCell ⟨b2, 0, none⟩ (.int .i64 (a % (X.r * X.c))) = W3 := ⟨_, rfl⟩
  have z3 : W3.heap.size = w2.heap.size := by rw [← hW3]; simp [World.setCell]
  have b4 : W3.cell? ⟨b, 0, none⟩ = some (.pointer (some ⟨p, 0, none⟩)) := by rw [← hW3]; exact (World.cell?_setCell_other _ _ _ _ (by simp <;> exact fun e => hne e.symm)).trans b3
  have d4 : W3.cell? ⟨b2, 0, none⟩ = some (.int .i64 (a % (X.r * X.c))) := by rw [← hW3]; exact World.cell?_setCell_same (h := d3) ..
  have k4 : W3.cell? ⟨w1.heap.size, 0, none⟩ = some (.int .i64 X.r) := by rw [← hW3]; exact (World.cell?_setCell_other _ _ _ _ (by simp <;> omega)).trans k0
  have k5 : W3.cell? ⟨w1.heap.size, 1, none⟩ = some (.int .i64 X.c) := by rw [← hW3]; exact (World.cell?_setCell_other _ _ _ _ (by simp <;> omega)).trans k1
  rw [hW3] at HJ2
  obtain ⟨g2, Y2, hs2, ok2, hal2, hb2'⟩ := HVV.out _ _ _ (HJ.out.less HJ2.out (fun k h => .inl h) : J N0 [] W3)
  have HAT := Lib.hid (see_at hal2 hs2 ok2 (a % (X.r * X.c)))
  rw [Spc.isA_emod] at HAT
  clear hs2 ok2 hal2 hb2' hb2 hbb hbd hu1 hu2 b1 d1 f1
  go_wp2_with fail
  try simp only [hW3]
  try go_wp2_with fail
  refine HAT.out.mono ?_
  rintro e w4 ⟨⟨ch, fa, hi, co, se, rfl⟩, hu4⟩
  have fC := fldC1
  have z4 := hu4.size
  have HJ4 := Lib.hid (HJ.out.up HJ2.out hu4)
  have zk : w1.heap.size < W3.heap.size := by omega
  have zb3 : b2 < W3.heap.size := by omega
  have zb4 : b < W3.heap.size := by omega
  have m0 := ((hu4.at_ w1.heap.size zk).1 0).trans k4
  have m1 := ((hu4.at_ w1.heap.size zk).1 1).trans k5
  have m2 := ((hu4.at_ b2 zb3).1 0).trans d4
  have m3 := ((hu4.at_ b zb4).1 0).trans b4
  clear hu4 k4 k5 d4 b4 b3 d3 f3 k0 k1 hW3 HAT
  have HIS := Lib.hid (show X.isA a = true → _ from fun h => cnt_is HOK.out h)
  obtain ⟨ia, hia⟩ : ∃ ia, X.isA a = ia := ⟨_, rfl⟩
  rw [hia]
  have HIA := Lib.hid hia
  clear hia
  cases ia
  · go_wp2_with fail
    refine bodyPost_ret (results_none rfl _ _ _) rfl ?_
    refine ⟨⟨_, rfl⟩, .inl ⟨[], ?_, HJ.out.less HJ4.out (fun k h => .inl h)⟩⟩
    unfold Spc.places
    rw [HIA.out]; rfl
  · have hlo : 0 ≤ a % (X.r * X.c) := Int.emod_nonneg _ (by omega)
    have hhi : a % (X.r * X.c) < X.r * X.c := Int.emod_lt_of_pos _ hm0
    go_wp2_with fail
    refine (HWG.out _ _).mono ?_
    rintro e w5 ⟨rfl, hu5⟩
    have HJ5 := Lib.hid (HJ.out.up HJ4.out hu5)
    have zk4 : w1.heap.size < w4.heap.size := by omega
    have n0 := ((hu5.at_ w1.heap.size zk4).1 0).trans m0
    have n1 := ((hu5.at_ w1.heap.size zk4).1 1).trans m1
    obtain ⟨i1, i2, i3⟩ := HIS.out HIA.out
    have HI2 := Lib.hid i2
    have HI3 := Lib.hid i3
    have he5 : (a % (X.r * X.c) + 1) % (X.r * X.c) = (a + 1 + ((0 : Nat) : Int)) % (X.r * X.c) := by rw [Int.emod_add_emod]; congr 1; omega
    rw [he5]
    have HPL := Lib.hid (show stepsL X a (X.cnt a) = X.places a by unfold Spc.places; rw [if_pos HIA.out])
    have HPP := Lib.hid (fun j (hj : j < X.cnt a) => places_pre HIA.out hj)
    obtain ⟨M, hM⟩ : ∃ M, X.r * X.c = M := ⟨_, rfl⟩
    obtain ⟨cn, hcn⟩ : ∃ cn, X.cnt a = cn := ⟨_, rfl⟩
    have HSE := Lib.hid (fun W p g Y n (h1 : Alike X Y) (h2 : SAt W p g Y) (h3 : Y.Ok) => see_at h1 h2 h3 (n % (X.r * X.c)))
    have HIE := Lib.hid (fun n => Spc.isA_emod X n)
    have HSS := Lib.hid (fun n => stepsL_succ X a n)
    rw [hM] at hm0 hln HWG HPP HSE HIE HSS hlo hhi ⊢
    rw [hcn] at i1 HI2 HI3 HPL HPP
    clear m0 m1 m2 m3 hu5 i2 i3 HIS hM hcn he5
    go_wp2_with fail
    refine (wpIn_wide (n := k)).1 ?_
    gi_loopw [5] (fun i wr => ∃ j : Nat, j ≤ cn ∧ i = .int .i64 ((a + 1 + (j : Int)) % M) ∧ J (fun k => N0 k ∨ k = w1.heap.size) (stepsL X a j) wr ∧ wr.cell? ⟨w1.heap.size, 0, none⟩ = some (.int .i64 X.r) ∧ wr.cell? ⟨w1.heap.size, 1, none⟩ = some (.int .i64 X.c)) (fun i _ => (((a + 1 + (cn : Int)) % M - intOf i) % M).toNat)
    case atStart => exact ⟨0, by omega, by simp, HJ5.out, n0, n1⟩
    case round =>
      obtain ⟨j, hj, rfl, hJs, c0, c1⟩ := hrel
      obtain ⟨g', Y', hs', ok', hal', hbc⟩ := HVV.out _ _ _ (HJ.out.less hJs (fun k h => .inl h) : J N0 _ wr)
      have HATJ := Lib.hid (HSE.out wr p g' Y' (a + 1 + (j : Int)) hal' hs' ok')
      rw [HIE.out] at HATJ
      have HJS := Lib.hid hJs
      have hlj : 0 ≤ (a + 1 + (j : Int)) % M := Int.emod_nonneg _ (by omega)
      have hhj : (a + 1 + (j : Int)) % M < M := Int.emod_lt_of_pos _ hm0
      clear hJs hs' ok' hal'
      by_cases hd : j = cn
      · subst hd
        rw [HI2.out] at HATJ
        gi_wp2_with (refine ⟨trivial, (fun h => by simp [Fence.wide] at h), ?_⟩; gi_at_call 42; (with_reducible refine (callsIn_wide.2 HATJ.out).mono ?_); rintro e w9 ⟨⟨ch9, fa9, hi9, co9, se9, rfl⟩, hu9⟩)
        go_end0
        exact ⟨⟨_, rfl⟩, .inl ⟨_, HPL.out, HJ.out.less (HJ.out.up HJS.out hu9) (fun k h => .inl h)⟩⟩
      · rw [HI3.out j (by omega)] at HATJ
        have HPJ := Lib.hid (HPP.out j (by omega))
        have HVE := Lib.hid (show ((a + 1 + (j : Int)) % M + 1) % M = (a + 1 + ((j + 1 : Nat) : Int)) % M by rw [Int.emod_add_emod]; congr 1; omega)
        have HDJ := Lib.hid (show (((a + 1 + (cn : Int)) % M - (a + 1 + (j : Int)) % M) % M).toNat = cn - j from dist_up (n := a + 1) hj (by omega))
        have HDK := Lib.hid (show (((a + 1 + (cn : Int)) % M - (a + 1 + ((j + 1 : Nat) : Int)) % M) % M).toNat = cn - (j + 1) from dist_up (n := a + 1) (by omega) (by omega))
        obtain ⟨v, hv⟩ : ∃ v, (a + 1 + (j : Int)) % M = v := ⟨_, rfl⟩
        have HSJ := Lib.hid (HSS.out j)
        rw [hv] at HATJ HPJ HVE HSJ HDJ hlj hhj ⊢
        clear hv
        have zw : w1.heap.size < wr.heap.size := cell_lt c0
        gi_wp2_with (refine ⟨trivial, (fun h => by simp [Fence.wide] at h), ?_⟩; gi_at_call 42; (with_reducible refine (callsIn_wide.2 HATJ.out).mono ?_); rintro e w9 ⟨⟨ch9, fa9, hi9, co9, se9, rfl⟩, hu9⟩; obtain ⟨fn, tmps, assign, body, hy, hR⟩ := HY.out (fun k => N0 k ∨ k = w1.heap.size) (stepsL X a j) v w9 (HJ.out.up HJS.out hu9) HPJ.out; have HRR := Lib.hid hR; clear hR; have c0' := ((hu9.at_ w1.heap.size zw).1 0).trans c0; have c1' := ((hu9.at_ w1.heap.size zw).1 1).trans c1; clear hu9)
        refine ⟨fun h => by simp [Fence.wide] at h, ?_⟩
        refine HRR.out.mono ?_
        rintro e W' (⟨rfl, hJ', hh⟩ | ⟨rfl, hJ', hh⟩)
        · have HJ' := Lib.hid hJ'
          have eb : W'.heap[w1.heap.size]? = w9.heap[w1.heap.size]? := hh _ (.inr rfl)
          have c0'' := (World.cell?_of_block (a := ⟨w1.heap.size, 0, none⟩) eb).trans c0'
          have c1'' := (World.cell?_of_block (a := ⟨w1.heap.size, 1, none⟩) eb).trans c1'
          clear hJ' hh eb hy
          gi_wp2_with (refine ⟨trivial, (fun h => by simp [Fence.wide] at h), ?_⟩; gi_at_call 89; (with_reducible refine (callsIn_wide.2 (HWG.out _ _)).mono ?_); rw [HVE.out]; rintro e w10 ⟨rfl, hu10⟩)
          have zw' : w1.heap.size < W'.heap.size := cell_lt c0''
          go_roundw
          case rel => exact ⟨j + 1, by omega, rfl, by rw [HSJ.out]; exact HJ.out.up HJ'.out hu10, ((hu10.at_ w1.heap.size zw').1 0).trans c0'', ((hu10.at_ w1.heap.size zw').1 1).trans c1''⟩
          case measure =>
            show (((a + 1 + (cn : Int)) % M - intOf (.int .i64 ((a + 1 + ((j + 1 : Nat) : Int)) % M))) % M).toNat < (((a + 1 + (cn : Int)) % M - intOf (.int .i64 v)) % M).toNat
            simp only [intOf]
            rw [HDJ.out, HDK.out]
            omega
        · have HX := Lib.hid hJ'
          clear hJ' hh hy
          gi_wp2
          refine bodyPost_ret (results_none rfl _ _ _) rfl ?_
          exact ⟨⟨_, rfl⟩, .inr ⟨_, HPJ.out, HJx.out.less HX.out (fun k h => .inl h)⟩⟩
end Go.Proofs.YtamfjgioajmnpaaGreatDoor
