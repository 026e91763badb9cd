/-
The link's told and take at a record's end in the basic mode; Mode, Options, Out, Respond of a record with no header. Conditions: how it lies.
link.New; the link's Send in the basic mode. Conditions: a name; functions none or one; no byte 255 in what is sent.
The link's Send in the basic mode. Conditions: how it lies; no byte 255 in what is sent.
The link's take of any event that its condition allows. Conditions: TkOk.
-/
import Derived.Test.YtamfjgioajmnpaaGreatDoorJa39
import Derived.Deep.RegionLaw
import Derived.Test.YtamfjgioajmnpaaGreatDoorJa18
namespace Go.Proofs.YtamfjgioajmnpaaGreatDoor
open Go.RowKit
set_option linter.unusedVariables false
set_option linter.unusedSimpArgs false

set_option maxRecDepth 100000 in
set_option maxHeartbeats 6400000 in
theorem told1_is {w : World} {b n c : Nat} {A : Option Addr} (hm : w.cell? ⟨b, 6, none⟩ = some (.int .i64 1)) :
    Calls Tryz.prog 141 #[.pointer (some ⟨b, 0, none⟩), .agg #[.slice A n c, .bool false]] w fun e w' => e = .returned (evVal 1 A n c) ∧ Up w w' := by
  have zb := cell_lt hm
  go_enter Tryz.func141, Tryz.ntmps141
  go_wp2
  refine bodyPost_ret (v := evVal 1 A n c) (by simp [results, Tryz.results141, go_sem, evVal]) rfl ⟨rfl, by (repeat (first | with_reducible exact Up.refl _ | with_reducible refine Up.alloc ?_ _ | with_reducible refine Up.drew ?_ | with_reducible refine Up.drewN ?_ _ | with_reducible refine Up.setCell ?_ (by (try simp) <;> omega) _ | with_reducible assumption | with_reducible refine Up.trans ?_ (by assumption)))⟩
def eworld (w : World) (B : Nat) (k : Int) (A : Option Addr) (n c : Nat) : World := ((((((w.setCell ⟨B, 0, none⟩ (.int .i64 k)).setCell ⟨B, 1, none⟩ (.slice A n c)).setCell ⟨B, 2, none⟩ (.int .u8 0)).setCell ⟨B, 3, none⟩ (.int .u8 0)).setCell ⟨B, 4, none⟩ (.int .u8 0)).setCell ⟨B, 5, none⟩ (.int .u16 0)).setCell ⟨B, 6, none⟩ (.bool false)
theorem ekeep (w : World) (B : Nat) (k : Int) (A : Option Addr) (n c : Nat) : Keep (fun k => k = B) w (eworld w B k A n c) := (((((((Keep.refl (fun k => k = B) w).setCell (p := ⟨B, 0, none⟩) (.inl rfl) _).setCell (p := ⟨B, 1, none⟩) (.inl rfl) _).setCell (p := ⟨B, 2, none⟩) (.inl rfl) _).setCell (p := ⟨B, 3, none⟩) (.inl rfl) _).setCell (p := ⟨B, 4, none⟩) (.inl rfl) _).setCell (p := ⟨B, 5, none⟩) (.inl rfl) _).setCell (p := ⟨B, 6, none⟩) (.inl rfl) _
/-- what take leaves at a record's end: the record's data are read in the link's blocks -/
def TkRec (w : World) (b : Nat) (F : Nat → Prop) (L : LkT) (p : List Int) (e : Ending) (w' : World) : Prop :=
  ∃ A c, e = .returned (.tuple #[evVal 1 A p.length c, .bool true]) ∧ Bt w' F A p.length c p ∧ LkAt w' b (Gr F w w') L ∧ Keep F w w'
set_option maxRecDepth 100000 in
set_option maxHeartbeats 6400000 in
theorem take_eor {w : World} {b ne ce : Nat} {F : Nat → Prop} {L : LkT} {o : Int} {Ae : Option Addr} {t1 t2 : Bool} (h : LkAt w b F L) (hm : L.mode = 1) (hl : L.mkr.long = false) :
    Calls Tryz.prog 103 #[.pointer (some ⟨b, 0, none⟩), .agg #[.int .i64 1, .int .u8 239, .int .u8 o, .slice Ae ne ce, .bool t1, .bool t2]] w (TkRec w b F { L with mkr := ⟨[], false⟩ } L.mkr.p) := by
  have H := Lib.hid h
  obtain ⟨W0, hW0⟩ : ∃ W0, (w.alloc (.cells #[.int .i64 1, .int .u8 239, .int .u8 o, .slice Ae ne ce, .bool t1, .bool t2] 165)).alloc (.cells #[.int .i64 0, .slice none 0 0, .int .u8 0, .int .u8 0, .int .u8 0, .int .u16 0, .bool false] 132) = W0 := ⟨_, rfl⟩
  have hu0 : Up w W0 := by rw [← hW0]; exact ((Up.refl w).alloc _).alloc _
  have s4 : St W0 132 (w.heap.size + 1) (evCells 0 none 0 0) := by
    rw [← hW0]
    have := St.new (w.alloc (.cells #[.int .i64 1, .int .u8 239, .int .u8 o, .slice Ae ne ce, .bool t1, .bool t2] 165)) 132 (evCells 0 none 0 0) rfl
    rwa [World.size_alloc] at this
  have hz0 : W0.heap.size = w.heap.size + 2 := by rw [← hW0]; simp
  obtain ⟨own, br, bo, be, bm, Ao, co, hi0⟩ := h
  have k6 := hi0.st.cell 6 (v := .int .i64 L.mode) rfl
  have k3 := hi0.st.cell 3 (v := .pointer (some ⟨bm, 0, none⟩)) rfl
  rw [hm] at k6
  have zb := hi0.st.lt
  have hi : LkI W0 b F own L br bo be bm Ao co := hi0.keep (E := fun _ => False) (Keep.of_up hu0) (fun _ _ h => h)
  have hen := mend_is hi.mkr
  unfold EndPost at hen
  rw [hl] at hen
  have HEN := Lib.hid hen
  have m6 := hi.st.cell 6 (v := .int .i64 L.mode) rfl
  rw [hm] at m6
  have M6 := Lib.hid m6
  have HI := Lib.hid hi
  have HU0 := Lib.hid hu0
  have HW0 := Lib.hid hW0
  have HZ0 := Lib.hid hz0
  have S4 := Lib.hid s4
  have HM := Lib.hid hm
  clear hen hi0 hu0 hW0 hz0 s4 hi hm hl m6
  go_enter Tryz.func103, Tryz.ntmps103
  go_wp2_with fail
  rw [HW0.out]
  refine HEN.out.mono ?_
  rintro e w1 ⟨A1, c1, rfl, hb1, hm1, hk1⟩
  obtain ⟨hl1, hkf1⟩ := HI.out.put_mk (w' := w1) hk1 hm1
  have d6 := hl1.st.cell 6 (v := .int .i64 L.mode) rfl
  rw [HM.out] at d6
  have HT := Lib.hid (told1_is (n := L.mkr.p.length) (c := c1) (A := A1) d6)
  have s41 := S4.out.keep hkf1 (fun hF => by have := H.out.lt _ hF; omega)
  have hB1 : Bt w1 F A1 L.mkr.p.length c1 L.mkr.p := hb1.mono (fun g hg => hg.1)
  have HB1 := Lib.hid hB1
  have HL1 := Lib.hid hl1
  have HKF1 := Lib.hid hkf1
  have S41 := Lib.hid s41
  clear hb1 hm1 hk1 hl1 hkf1 s41 d6 hB1
  go_wp2_with fail
  refine HT.out.mono ?_
  rintro e w2 ⟨rfl, hu2⟩
  have s42 := S41.out.up hu2
  have d0 := s42.cell 0 (v := .int .i64 0) rfl
  have d1 := s42.cell 1 (v := .slice none 0 0) rfl
  have d2 := s42.cell 2 (v := .int .u8 0) rfl
  have d3 := s42.cell 3 (v := .int .u8 0) rfl
  have d4 := s42.cell 4 (v := .int .u8 0) rfl
  have d5 := s42.cell 5 (v := .int .u16 0) rfl
  have d6 := s42.cell 6 (v := .bool false) rfl
  have e0 := s42.free 0
  have e1 := s42.free 1
  have e2 := s42.free 2
  have e3 := s42.free 3
  have e4 := s42.free 4
  have e5 := s42.free 5
  have e6 := s42.free 6
  have z42 := s42.lt
  have S42 := Lib.hid s42
  have HU2 := Lib.hid hu2
  clear s42 hu2
  simp only [evVal]
  go_wp2_with fail
  have s5 := ((((((S42.out.set 0 (.int .i64 1)).set 1 (.slice A1 L.mkr.p.length c1)).set 2 (.int .u8 0)).set 3 (.int .u8 0)).set 4 (.int .u8 0)).set 5 (.int .u16 0)).set 6 (.bool false)
  have q0 := s5.cell 0 (v := .int .i64 1) rfl
  have q1 := s5.cell 1 (v := .slice A1 L.mkr.p.length c1) rfl
  have q2 := s5.cell 2 (v := .int .u8 0) rfl
  have q3 := s5.cell 3 (v := .int .u8 0) rfl
  have q4 := s5.cell 4 (v := .int .u8 0) rfl
  have q5 := s5.cell 5 (v := .int .u16 0) rfl
  have q6 := s5.cell 6 (v := .bool false) rfl
  have hk3 := ekeep w2 (w.heap.size + 1) 1 A1 L.mkr.p.length c1
  obtain ⟨W3, hW3⟩ : ∃ W3, eworld w2 (w.heap.size + 1) 1 A1 L.mkr.p.length c1 = W3 := ⟨_, rfl⟩
  rw [hW3] at hk3
  simp only [eworld] at hW3
  rw [hW3] at q0 q1 q2 q3 q4 q5 q6 ⊢
  refine bodyPost_ret (v := .tuple #[evVal 1 A1 L.mkr.p.length c1, .bool true]) (by simp [results, Tryz.results103, go_sem, q0, q1, q2, q3, q4, q5, q6, evVal]) rfl ?_
  have hnew : ∀ k, k = w.heap.size + 1 → ¬ Gr F W0 w1 k := fun k e hg => by
    have := HZ0.out
    rcases hg with h | h
    · have := H.out.lt _ h; omega
    · omega
  have hL2 : LkAt w2 b (Gr F W0 w1) { L with mkr := ⟨[], false⟩ } := LkAt.up ⟨_, _, _, _, _, _, _, HL1.out⟩ HU2.out
  have hL3 := hL2.keep hk3 (fun k hk e => hnew k e hk)
  have z1 := HKF1.out.size
  have z2 := HU2.out.size
  have z3 := hk3.size
  have hkw : Keep F w w2 := ((Keep.of_up HU0.out).trans HKF1.out).up HU2.out
  have hkw3 : Keep F w W3 := hkw.gr (hk3.mono fun k hk => .inr ⟨by omega, by have := HZ0.out; omega⟩)
  have z0 := HZ0.out
  refine ⟨A1, c1, rfl, (HB1.out.up HU2.out).keep hk3 (fun g hg e => hnew g e (.inl (HB1.out.in_ g hg))), hL3.wide (fun k hk => hk.imp id (fun h => ⟨by omega, by omega⟩)) (Gr.lt H.out.lt hkw3.size), hkw3⟩
theorem lmode_is {w : World} {b : Nat} {F : Nat → Prop} {L : LkT} (h : LkAt w b F L) :
    Calls Tryz.prog 57 #[.pointer (some ⟨b, 0, none⟩)] w fun e w' => e = .returned (.int .i64 L.mode) ∧ w = w' := by
  obtain ⟨own, br, bo, be, bm, Ao, co, hi⟩ := h
  have k6 := hi.st.cell 6 (v := .int .i64 L.mode) rfl
  have zb := hi.st.lt
  clear hi
  go_enter Tryz.func57, Tryz.ntmps57
  go_wp2
  go_ret
  exact ⟨rfl, rfl⟩
theorem loptions_is {w : World} {b : Nat} {F : Nat → Prop} {L : LkT} (h : LkAt w b F L) :
    Calls Tryz.prog 76 #[.pointer (some ⟨b, 0, none⟩)] w fun e w' => (∃ bo, e = .returned (.pointer (some ⟨bo, 0, none⟩)) ∧ MAt w bo L.S L.G ∧ F bo ∧ okS L.S) ∧ w = w' := by
  obtain ⟨own, br, bo, be, bm, Ao, co, hi⟩ := h
  have k1 := hi.st.cell 1 (v := .pointer (some ⟨bo, 0, none⟩)) rfl
  have zb := hi.st.lt
  have HI := Lib.hid hi
  clear hi
  go_enter Tryz.func76, Tryz.ntmps76
  go_wp2
  go_ret
  exact ⟨⟨bo, rfl, HI.out.ma, HI.out.fo.1, HI.out.ok⟩, rfl⟩
/-- what waited goes: its blocks are the caller's -/
def OutPost (w : World) (b : Nat) (F : Nat → Prop) (L : LkT) (e : Ending) (w' : World) : Prop :=
  ∃ A c G1 F1, e = .returned (.slice A L.out.length c) ∧ Bt w' G1 A L.out.length c L.out ∧ LkAt w' b F1 { L with out := [] } ∧ (∀ k, F1 k → F k) ∧ (∀ k, G1 k → F k) ∧ (∀ k, F1 k → ¬ G1 k) ∧ Keep F w w' ∧ w'.heap.size = w.heap.size
theorem lout_is {w : World} {b : Nat} {F : Nat → Prop} {L : LkT} (h : LkAt w b F L) :
    Calls Tryz.prog 60 #[.pointer (some ⟨b, 0, none⟩)] w (OutPost w b F L) := by
  obtain ⟨own, br, bo, be, bm, Ao, co, hi⟩ := h
  have k4 := hi.st.cell 4 (v := .slice Ao L.out.length co) rfl
  have f4 := hi.st.free 4
  have zb := hi.st.lt
  have HI := Lib.hid hi
  clear hi
  go_enter Tryz.func60, Tryz.ntmps60
  go_wp2
  go_ret
  have h := HI.out
  have hk : Keep (fun k => k = b) w (w.setCell ⟨b, 4, none⟩ (.slice none 0 0)) := (Keep.refl (fun k => k = b) w).setCell (p := ⟨b, 4, none⟩) (.inl rfl) _
  have hkF : Keep (Cp F own 0) w (w.setCell ⟨b, 4, none⟩ (.slice none 0 0)) := hk.mono (fun k e => by rw [e]; exact h.fb)
  have hnb : blk Ao ≠ some b := h.out.ne h.st ne_lk8
  have hG : ∀ k, blk Ao = some k → Cp F own 0 k ∧ k ≠ b := fun k hk => ⟨h.out.in_ k hk, fun e => hnb (e ▸ hk)⟩
  have hap : ∀ i, i ≠ 0 → ∀ k, Cp F own i k → blk Ao ≠ some k := fun i hi k hk e => hi (hk.2.symm.trans (hG k e).1.2)
  have ne0 : ∀ i, i ≠ 0 → ∀ k, Cp F own i k → k ≠ b := fun i hi k hk e => hi (hk.2.symm.trans (e ▸ h.fb.2))
  have sz : (w.setCell ⟨b, 4, none⟩ (.slice none 0 0)).heap.size = w.heap.size := by simp [World.setCell]
  refine ⟨Ao, co, fun k => blk Ao = some k, fun k => F k ∧ blk Ao ≠ some k, rfl, ?_, ⟨own, br, bo, be, bm, none, 0, ?_⟩, fun k hk => hk.1, fun k hk => (hG k hk).1.1, fun k hk => hk.2, hkF.mono (fun k hk => hk.1), sz⟩
  · have hb := (Bt.of_row h.out h.bo).keep hk (fun g hg => (hG g hg).2)
    exact ⟨hb.rd, hb.cap, hb.mx, fun g hg => hg, hb.bytes, hb.tag⟩
  · have wd : ∀ i, i ≠ 0 → ∀ k, Cp F own i k → Cp (fun k => F k ∧ blk Ao ≠ some k) own i k := fun i hi k hk => ⟨⟨hk.1, hap i hi k hk⟩, hk.2⟩
    have lt' : ∀ i, ∀ k, Cp (fun k => F k ∧ blk Ao ≠ some k) own i k → k < (w.setCell ⟨b, 4, none⟩ (.slice none 0 0)).heap.size := fun i k hk => by rw [sz]; exact h.lt k hk.1.1
    exact ⟨h.st.set 4 (.slice none 0 0), ⟨⟨h.fb.1, hnb⟩, h.fb.2⟩, (h.rd.keep hk (ne0 1 (by decide))).wide (wd 1 (by decide)) (lt' 1), h.ma.kept hk h.zo (ne0 2 (by decide) _ h.fo), wd 2 (by decide) _ h.fo, h.ok, (h.en.keep hk (ne0 3 (by decide))).wide (wd 3 (by decide)) (lt' 3), (h.mkr.keep hk (ne0 4 (by decide))).wide (wd 4 (by decide)) (lt' 4), Row.none_, BL.nil, fun k hk => by rw [sz]; exact h.lt k hk.1⟩
theorem respond0_is {w : World} {b n c : Nat} {k : Int} {A : Option Addr} {x : Int} (zb : b < w.heap.size) :
    Calls Tryz.prog 146 #[.pointer (some ⟨b, 0, none⟩), evVal k A n c, .int .i64 x] w fun e w' => e = .returned (.bool false) ∧ Up w w' := by
  simp only [evVal]
  go_enter Tryz.func146, Tryz.ntmps146
  go_wp2
  go_ret
  exact ⟨rfl, by (repeat (first | with_reducible exact Up.refl _ | with_reducible refine Up.alloc ?_ _ | with_reducible refine Up.drew ?_ | with_reducible refine Up.drewN ?_ _ | with_reducible refine Up.setCell ?_ (by (try simp) <;> omega) _ | with_reducible assumption | with_reducible refine Up.trans ?_ (by assumption)))⟩
end Go.Proofs.YtamfjgioajmnpaaGreatDoor
namespace Go.Proofs.YtamfjgioajmnpaaGreatDoor
open Go.RowKit
set_option linter.unusedVariables false
set_option linter.unusedSimpArgs false

def usL (x : Bool) : List Int := if x then [0, 24, 25, 40] else [0, 24, 25]
def newLk (s : ByteArray) (l : List Int) (x : Bool) : LkT := ⟨RdT.zero, fun _ _ => 0, agr (usL x) [0, 25], ⟨s, ⟨#[]⟩, l, 0, ⟨#[]⟩, []⟩, ⟨[], false⟩, [], 0, 0⟩
/-- the colours of a new link's blocks -/
def ownNew (b br bo bm : Nat) : Nat → Nat := fun k => if k = b then 0 else if k = br then 1 else if k = bo then 2 else if k = bm then 4 else 3
theorem lk_made {w w1 w2 w3 w4 : World} {be br bo bm : Nat} {E : EnT} {R : RdT} {S : Nat → Nat → Int} {G : Nat → Nat → Bool} {M : MkT} (hen : EnAt w1 be (fun k => w.heap.size ≤ k ∧ k < w1.heap.size) E) (hrd : RdAt w2 br (fun k => k = br) R) (hm : MAt w3 bo S G) (ok : okS S) (hmk : MkAt w4 bm (fun k => k = bm) M)
    (o1 : w1.heap.size ≤ br) (o2 : w2.heap.size ≤ bo) (o3 : w3.heap.size ≤ bm) (u0 : w.heap.size ≤ w1.heap.size) (u12 : Up w1 w2) (u23 : Up w2 w3) (u34 : Up w3 w4) :
    LkAt (w4.alloc (.cells (lkVals ⟨R, S, G, E, M, [], 0, 0⟩ br bo be bm none 0).toArray 187)) w4.heap.size (fun k => w.heap.size ≤ k ∧ k < w4.heap.size + 1) ⟨R, S, G, E, M, [], 0, 0⟩ := by
  have z1 := u12.size
  have z2 := u23.size
  have z3 := u34.size
  have r1 := hrd.lt br rfl
  have r2 : bo < w3.heap.size := cell_lt (hm 0 0 (by omega) (by omega)).1.1
  have r3 := hmk.lt bm rfl
  have ua : Up w4 (w4.alloc (.cells (lkVals ⟨R, S, G, E, M, [], 0, 0⟩ br bo be bm none 0).toArray 187)) := (Up.refl w4).alloc _
  have u24 := u23.trans u34
  have u14 := u12.trans u24
  have kp : ∀ {a c : World}, Up a c → Keep (fun _ => False) a c := fun h => Keep.of_up h
  refine ⟨ownNew w4.heap.size br bo bm, br, bo, be, bm, none, 0, St.new w4 _ _ rfl, ⟨⟨by omega, by omega⟩, by simp [ownNew]⟩, ?_, (hm.upw u34).upw ua, ⟨⟨by omega, by omega⟩, ?_⟩, ok, ?_, ?_, Row.none_, BL.nil, fun k hk => by simp; exact hk.2⟩
  · refine ((hrd.up u24).up ua).wide (fun k hk => ⟨⟨by omega, by omega⟩, ?_⟩) (fun k hk => by simp; exact hk.1.2)
    subst hk
    simp only [ownNew]
    rw [if_neg (by omega), if_true]
  · simp only [ownNew]
    rw [if_neg (by omega), if_neg (by omega), if_true]
  · refine ((hen.keep (kp u14) (fun _ _ h => h)).keep (kp ua) (fun _ _ h => h)).wide (fun k hk => ⟨⟨hk.1, by omega⟩, ?_⟩) (fun k hk => by simp; exact hk.1.2)
    simp only [ownNew]
    rw [if_neg (by omega), if_neg (by omega), if_neg (by omega), if_neg (by omega)]
  · refine (hmk.keep (kp ua) (fun _ _ h => h)).wide (fun k hk => ⟨⟨by omega, by omega⟩, ?_⟩) (fun k hk => by simp; exact hk.1.2)
    subst hk
    simp only [ownNew]
    rw [if_neg (by omega), if_neg (by omega), if_neg (by omega), if_true]
def LNewPost (w : World) (s : ByteArray) (l : List Int) (x : Bool) (e : Ending) (w' : World) : Prop :=
  ∃ b, e = .returned (.tuple #[.pointer (some ⟨b, 0, none⟩), .int .i64 0]) ∧ LkAt w' b (fun k => w.heap.size ≤ k ∧ k < w'.heap.size) (newLk s l x) ∧ Up w w'
set_option maxRecDepth 100000 in
set_option maxHeartbeats 6400000 in
theorem lnew_is {s : ByteArray} {A : Option Addr} {n c : Nat} {l : List Int} {w : World} {G : Nat → Prop} {x : Bool} (h : NameOk s) (hf : Bt w G A n c l) (hr : ∀ W, Up w W → Calls Tryz.prog 131 #[.slice A n c] W fun e w' => e = .returned (.bool true) ∧ W = w') (hn : n ≤ 60000) :
    Calls Tryz.prog 49 #[.agg #[.string s, .string ⟨#[]⟩, .slice A n c, .bool x]] w (LNewPost w s l x) := by
  obtain ⟨i0, hi, hz0, hz1, hz2⟩ := info_parts info_u8
  have hu0 : Up w (w.alloc (.cells #[.string s, .string ⟨#[]⟩, .slice A n c, .bool x] 32)) := (Up.refl w).alloc _
  have HN := Lib.hid (nnew_is h (hf.up hu0) (fun W hW => hr W (hu0.trans hW)) hn)
  have HU0 := Lib.hid hu0
  clear h hf hr hu0
  cases x
  · go_enter Tryz.func49, Tryz.ntmps49
    go_wp2_with fail
    refine HN.out.mono ?_
    rintro e w1 ⟨be, rfl, hbe, hen, hu1⟩
    have s0 : St w1 32 w.heap.size [.string s, .string ⟨#[]⟩, .slice A n c, .bool false] := (St.new w _ [.string s, .string ⟨#[]⟩, .slice A n c, .bool false] rfl).up hu1
    have a3 := s0.cell 3 (v := .bool false) rfl
    have z0 := s0.lt
    have HEN := Lib.hid hen
    have HU1 := Lib.hid hu1
    have HBE := Lib.hid hbe
    clear hen hu1 hbe s0
    go_wp2_with fail
    refine (newReader_is _).mono ?_
    rintro e w2 ⟨rfl, hrd, hu2⟩
    have HRD := Lib.hid hrd
    have HU2 := Lib.hid hu2
    clear hrd hu2
    go_wp2_with fail
    refine (new_at (l1 := usL false) (l2 := [0, 25]) ((reads_lit1 w1 _ _ [0, 24, 25] 3 rfl rfl _ rfl).up (HU2.out.alloc _)) (reads_lit1 w2 _ _ [0, 25] 2 rfl rfl _ rfl) (by omega) (by omega) (by decide) (by decide)).mono ?_
    rintro e w3 ⟨bo, rfl, hb0, hb1, hm3, hu3⟩
    have HM3 := Lib.hid hm3
    have HU3 := Lib.hid hu3
    have hb0' : w2.heap.size ≤ bo := by simp at hb0; omega
    clear hm3 hu3 hb0
    go_wp2_with fail
    refine (newMaker_is _).mono ?_
    rintro e w4 ⟨rfl, hmk, hu4⟩
    have HMK := Lib.hid hmk
    have HU4 := Lib.hid hu4
    clear hmk hu4
    go_wp2_with fail
    go_ret2
    have u12 : Up w1 w2 := by first | exact ((Up.refl w1).alloc _).trans HU2.out | exact (UA.out).trans HU2.out
    have u23 : Up w2 w3 := ((Up.refl w2).alloc _).trans HU3.out
    have z := HU1.out.size
    simp only [World.size_alloc] at z
    have hl := lk_made (HEN.out.wide (G := fun k => w.heap.size ≤ k ∧ k < w1.heap.size) (fun k hk => ⟨by have := hk.1; simp at this; omega, hk.2⟩) (fun k hk => hk.2)) HRD.out HM3.out okS_zero HMK.out (by first | (simp; done) | (have := UA.out.size; omega)) hb0' (Nat.le_refl _) (show w.heap.size ≤ w1.heap.size by omega) u12 u23 HU4.out
    refine ⟨w4.heap.size, rfl, ?_, (((HU0.out.trans HU1.out).trans (u12.trans u23)).trans HU4.out).alloc _⟩
    simp only [World.size_alloc] at hl ⊢
    exact hl
  · go_enter Tryz.func49, Tryz.ntmps49
    go_wp2_with fail
    refine HN.out.mono ?_
    rintro e w1 ⟨be, rfl, hbe, hen, hu1⟩
    have s0 : St w1 32 w.heap.size [.string s, .string ⟨#[]⟩, .slice A n c, .bool true] := (St.new w _ [.string s, .string ⟨#[]⟩, .slice A n c, .bool true] rfl).up hu1
    have a3 := s0.cell 3 (v := .bool true) rfl
    have z0 := s0.lt
    have HEN := Lib.hid hen
    have HU1 := Lib.hid hu1
    have HBE := Lib.hid hbe
    clear hen hu1 hbe s0
    have hlit : Row 5 1 (w1.alloc (.cells #[.int .u8 0, .int .u8 24, .int .u8 25] 5)) (fun k => w1.heap.size ≤ k) (some ⟨w1.heap.size, 0, none⟩) 3 3 (bs [0, 24, 25]) := ⟨own_base (World.ownsRow_lit w1 #[.int .u8 0, .int .u8 24, .int .u8 25] 3 (Nat.le_refl _) (by simp [maxLen]) rfl) (Nat.zero_le _), by omega, by simp [maxLen], fun g hg => by simp [blk] at hg; omega⟩
    have HLIT := Lib.hid hlit
    clear hlit
    go_wp2_with (at_builtin; go_must (refine wpList_row rfl 30 rfl 5 i0 _ 1 1 Tryz.underlying30 hi hz0 hz1 hz2 rfl (by decide) rfl (HLIT.out.up ((Up.refl _).alloc _)) rfl (reads_at (w1.alloc (.cells #[.int .u8 0, .int .u8 24, .int .u8 25] 5)) (w1.heap.size + 1) 1 1 #[.int .u8 40] 5 rfl (by simp)) (one_bs [40]) (by simp [maxLen]) (by omega) ?_; intro A5 c5 w5 hr5 hg5 hb5; have HR5 := Lib.hid hr5; have UA := Lib.hid ((((Up.refl w1).alloc _).alloc _).grown hg5 (fun g hg => HLIT.out.in_ g hg)); clear hr5 hg5 hb5))
    refine (newReader_is _).mono ?_
    rintro e w2 ⟨rfl, hrd, hu2⟩
    have HRD := Lib.hid hrd
    have HU2 := Lib.hid hu2
    clear hrd hu2
    go_wp2_with fail
    refine (new_at (l1 := usL true) (l2 := [0, 25]) ((HR5.out.reads).up (HU2.out.alloc _)) (reads_lit1 w2 _ _ [0, 25] 2 rfl rfl _ rfl) (by omega) (by omega) (by decide) (by decide)).mono ?_
    rintro e w3 ⟨bo, rfl, hb0, hb1, hm3, hu3⟩
    have HM3 := Lib.hid hm3
    have HU3 := Lib.hid hu3
    have hb0' : w2.heap.size ≤ bo := by simp at hb0; omega
    clear hm3 hu3 hb0
    go_wp2_with fail
    refine (newMaker_is _).mono ?_
    rintro e w4 ⟨rfl, hmk, hu4⟩
    have HMK := Lib.hid hmk
    have HU4 := Lib.hid hu4
    clear hmk hu4
    go_wp2_with fail
    go_ret2
    have u12 : Up w1 w2 := by first | exact ((Up.refl w1).alloc _).trans HU2.out | exact (UA.out).trans HU2.out
    have u23 : Up w2 w3 := ((Up.refl w2).alloc _).trans HU3.out
    have z := HU1.out.size
    simp only [World.size_alloc] at z
    have hl := lk_made (HEN.out.wide (G := fun k => w.heap.size ≤ k ∧ k < w1.heap.size) (fun k hk => ⟨by have := hk.1; simp at this; omega, hk.2⟩) (fun k hk => hk.2)) HRD.out HM3.out okS_zero HMK.out (by first | (simp; done) | (have := UA.out.size; omega)) hb0' (Nat.le_refl _) (show w.heap.size ≤ w1.heap.size by omega) u12 u23 HU4.out
    refine ⟨w4.heap.size, rfl, ?_, (((HU0.out.trans HU1.out).trans (u12.trans u23)).trans HU4.out).alloc _⟩
    simp only [World.size_alloc] at hl ⊢
    exact hl
end Go.Proofs.YtamfjgioajmnpaaGreatDoor
namespace Go.Proofs.YtamfjgioajmnpaaGreatDoor
open Go.RowKit
set_option linter.unusedVariables false
set_option linter.unusedSimpArgs false

set_option maxRecDepth 100000 in
set_option maxHeartbeats 6400000 in
theorem send1_is {w : World} {b n c : Nat} {F G : Nat → Prop} {L : LkT} {A : Option Addr} {p : List Int} (h : LkAt w b F L) (hp : Bt w G A n c p) (hm : L.mode = 1) (h255 : (255 : Int) ∉ p) (hn : n ≤ 100000000) (ho : L.out.length ≤ 1000000000) :
    Calls Tryz.prog 59 #[.pointer (some ⟨b, 0, none⟩), .slice A n c] w fun e w' => e = .returned (.int .i64 0) ∧ LkAt w' b (Gr F w w') { L with out := L.out ++ (p ++ [255, 239]) } ∧ Keep F w w' := by
  obtain ⟨i0, hi, hz0, hz1, hz2⟩ := info_parts info_u8
  obtain ⟨own, br, bo, be, bm, Ao, co, h⟩ := h
  have H := Lib.hid h
  have k4 := h.st.cell 4 (v := .slice Ao L.out.length co) rfl
  have k6 := h.st.cell 6 (v := .int .i64 L.mode) rfl
  rw [hm] at k6
  have f4 := h.st.free 4
  have zb := h.st.lt
  have HR := Lib.hid (recBytes_is (w := w.drew) (hp.up ((Up.refl w).drew)) h255 (by omega))
  rw [escT_none h255] at HR
  obtain ⟨M, hM⟩ : ∃ M, p ++ [255, 239] = M := ⟨_, rfl⟩
  rw [hM] at HR
  have hMl : M.length = n + 2 := by rw [← hM]; simp [hp.len]
  have HMB := Lib.hid (show BL M by rw [← hM]; exact hp.bytes.app (BL.cons (by omega) (BL.cons (by omega) BL.nil)))
  have hq1 : L.out.length + M.length ≤ maxLen := by simp [maxLen]; omega
  have hq2 : (L.out.length + M.length) * 1 ≤ 140737488355328 := by omega
  have HMM := Lib.hid hM
  clear h hp hm h255 hM hMl hn ho
  go_enter Tryz.func59, Tryz.ntmps59
  go_wp2_with fail
  go_region_law (first | (go_simp; go_at_call 92; refine HR.out.mono ?_; rintro e w3 ⟨A3, c3, rfl, hr3, hu3⟩; obtain ⟨kc, kf⟩ := hu3.at_ b (show b < w.drew.heap.size from zb); have t3 := (kc 4).trans k4; have t4 := (kf 4).trans f4; have HR3 := Lib.hid hr3; have HU3 := Lib.hid hu3; have zm3 : b < w3.heap.size := (by have h1 := hu3.size; have h2 : w.heap.size ≤ w3.heap.size := h1; omega); clear hr3 hu3 kc kf) | (refine step_row (cx := c3) rfl 30 rfl 5 i0 _ 1 1 Tryz.underlying30 hi hz0 hz1 hz2 rfl (by decide) (by simp [Act.eval, Act.put]) ((H.out.out.up ((Up.refl w).drew)).up HU3.out) (by simp [Act.eval, Act.put]) HR3.out.reads (one_bs M) hq1 hq2 ?_; intro A4 c4 w4 hr4 hg4 hb4; have st4 : St w4 187 b (lkVals L br bo be bm Ao co) := (((H.out.st.drew).up HU3.out)).grown hg4 (H.out.out.ne H.out.st ne_lk8); have d44 := st4.cell 4 (v := .slice Ao L.out.length co) rfl; have e44 := st4.free 4; have zb4 := st4.lt; have ST4 := Lib.hid st4; have HR4 := Lib.hid hr4; have HG4 := Lib.hid hg4; clear st4 hr4 hg4 hb4))
  all_goals
    go_wp2_with fail
    go_ret
    have hu3 : Up w w3 := ((Up.refl w).drew).trans HU3.out
    have hk : Keep (Cp F own 0) w (w4.setCell ⟨b, 4, none⟩ (.slice A4 (L.out.length + M.length) c4)) := ((Keep.of_up hu3).trans (Keep.grown HG4.out (fun g hg => H.out.out.in_ g hg))).setCell (p := ⟨b, 4, none⟩) (.inl H.out.fb) _
    rw [HMM.out]
    obtain ⟨h5, hk5⟩ := H.out.put_own (L' := { L with out := L.out ++ M }) (Ao' := A4) (co' := c4) hk (by simpa [lkVals] using ST4.out.set 4 (.slice A4 (L.out.length + M.length) c4)) (by
      simp only [List.length_append, bs_app]
      exact (HR4.out.struct ST4.out ne_lk8 4 _).gr (fun g hg => hg.imp id (fun e => by rw [e]; exact hu3.size))) (H.out.bo.app HMB.out) rfl rfl rfl rfl rfl
    exact ⟨rfl, ⟨_, _, _, _, _, _, _, h5⟩, hk5⟩
end Go.Proofs.YtamfjgioajmnpaaGreatDoor
namespace Go.Proofs.YtamfjgioajmnpaaGreatDoor
open Go.RowKit
set_option linter.unusedVariables false
set_option linter.unusedSimpArgs false

/-- an event of a link -/
structure LEv where
  kind : Int
  data : List Int
  h1 : Int
  h2 : Int
  h3 : Int
  h4 : Int
  headed : Bool
structure LEvV where
  ev : LEv
  A : Option Addr
  c : Nat
def LEvV.val (x : LEvV) : Value := .agg #[.int .i64 x.ev.kind, .slice x.A x.ev.data.length x.c, .int .u8 x.ev.h1, .int .u8 x.ev.h2, .int .u8 x.ev.h3, .int .u16 x.ev.h4, .bool x.ev.headed]
def bareEv (k : Int) (l : List Int) : LEv := ⟨k, l, 0, 0, 0, 0, false⟩
/-- what the link makes of an event -/
def takeLk (L : LkT) (e : EvT) : LkT × Option LEv :=
  if e.kind = 2 then (settleT (hearT L e.verb e.opt.toNat), none)
  else if e.kind = 3 then (settleT (subT L), none)
  else if e.kind = 0 then (settleT { L with mkr := addT L.mkr e.data }, none)
  else ({ L with mkr := ⟨[], false⟩ }, some (bareEv 1 L.mkr.p))
/-- what is asked of an event and a link -/
structure TkOk (L : LkT) (e : EvT) : Prop where
  verb : 0 ≤ e.verb ∧ e.verb ≤ 255
  opt : 0 ≤ e.opt ∧ e.opt ≤ 255
  kinds : e.kind = 2 ∨ e.kind = 3 ∨ e.kind = 0 ∨ e.kind = 1
  sub : e.kind = 3 → e.opt = 24 ∧ e.data = [1] ∧ e.long = false ∧ e.broken = false ∧ (L.S 0 24 == 1) = true ∧ (L.en.st == 4) = false ∧ (255 : Int) ∉ sB L.en.typ ∧ L.en.typ.size ≤ 1000
  data : e.kind = 0 → (L.mode == 0) = false
  eor : e.kind = 1 → e.verb = 239 ∧ L.mode = 1 ∧ L.mkr.long = false
  out : L.out.length ≤ 1000000000
  dlen : e.data.length ≤ 1000000000
def TkAny (w : World) (b : Nat) (F G : Nat → Prop) (L : LkT) (o : Option LEv) (e : Ending) (w' : World) : Prop :=
  (∃ x : LEvV, e = .returned (.tuple #[x.val, .bool o.isSome]) ∧ (∀ y, o = some y → x.ev = y ∧ Bt w' (fun g => F g ∨ G g) x.A y.data.length x.c y.data)) ∧ LkAt w' b (Gr F w w') L ∧ Keep F w w'
theorem take_any {w : World} {b : Nat} {F G : Nat → Prop} {L : LkT} {x : EvV} (h : LkAt w b F L) (hx : Bt w G x.A x.data.length x.c x.data) (hG : ∀ k, G k → ¬ F k) (ok : TkOk L x.bare) :
    Calls Tryz.prog 103 #[.pointer (some ⟨b, 0, none⟩), .agg #[.int .i64 x.kind, .int .u8 x.verb, .int .u8 x.opt, .slice x.A x.data.length x.c, .bool x.long, .bool x.broken]] w (TkAny w b F G (takeLk L x.bare).1 (takeLk L x.bare).2) := by
  obtain ⟨kd, v, o, A, c, l, t1, t2⟩ := x
  have hv := ok.verb
  have ho := ok.opt
  have hs := ok.sub
  have hd := ok.data
  have he := ok.eor
  have hn := ok.out
  have hdl := ok.dlen
  have hk := ok.kinds
  simp only [EvV.bare] at hv ho hs hd he hn hdl hk hx ⊢
  rcases hk with rfl | rfl | rfl | rfl
  · refine (take_opt (k := o.toNat) h hv (by omega) (by omega) hn).mono ?_
    rintro e w' ⟨rfl, h1, h2⟩
    exact ⟨⟨⟨bareEv 0 [], none, 0⟩, rfl, fun y hy => by cases hy⟩, h1, h2⟩
  · obtain ⟨rfl, rfl, rfl, rfl, a1, a2, a3, a4⟩ := hs rfl
    obtain ⟨g, off, rfl, hg⟩ := hx.rd.form (by simp)
    have hc := (hx.sl (by simp)).cell (i := 0) (by simp)
    refine (take_sub (v := v) (ce := c) h (by simpa using hc) a1 a2 a3 a4 hn (hG g (hx.in_ g rfl))).mono ?_
    rintro e w' ⟨rfl, h1, h2⟩
    exact ⟨⟨⟨bareEv 0 [], none, 0⟩, rfl, fun y hy => by cases hy⟩, h1, h2⟩
  · refine (take_data (v := v) (o := o) (t1 := t1) (t2 := t2) h hx (hd rfl) hdl).mono ?_
    rintro e w' ⟨rfl, h1, h2⟩
    exact ⟨⟨⟨bareEv 0 [], none, 0⟩, rfl, fun y hy => by cases hy⟩, h1, h2⟩
  · obtain ⟨rfl, a1, a2⟩ := he rfl
    refine (take_eor (o := o) (Ae := A) (ne := l.length) (ce := c) (t1 := t1) (t2 := t2) h a1 a2).mono ?_
    rintro e w' ⟨A1, c1, rfl, h0, h1, h2⟩
    refine ⟨⟨⟨bareEv 1 L.mkr.p, A1, c1⟩, rfl, fun y hy => ?_⟩, h1, h2⟩
    injection hy with hy
    subst hy
    exact ⟨rfl, h0.mono fun g hg => .inl hg⟩
end Go.Proofs.YtamfjgioajmnpaaGreatDoor
