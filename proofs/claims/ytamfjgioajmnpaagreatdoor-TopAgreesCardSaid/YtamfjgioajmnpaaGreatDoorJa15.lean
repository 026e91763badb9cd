/-
The scanner's op, kind by kind. No condition but the slice's own reach.
-/
import Derived.Test.YtamfjgioajmnpaaGreatDoorJa14
import Derived.Deep.MidRow
namespace Go.Proofs.YtamfjgioajmnpaaGreatDoor
open Go.RowKit
set_option linter.unusedVariables false
set_option linter.unusedSimpArgs false

/-- an order's seven cells in a block of its own -/
structure Op7 (W : World) (B : Nat) (k a c : Int) (g : Bool) (f : Int) (ps ts : Value) : Prop where
  free : ∀ o, W.frozen? ⟨B, o, none⟩ = false
  lt : B < W.heap.size
  c0 : W.cell? ⟨B, 0, none⟩ = some (.int .i64 k)
  c1 : W.cell? ⟨B, 1, none⟩ = some (.int .i64 a)
  c2 : W.cell? ⟨B, 2, none⟩ = some (.int .u8 c)
  c3 : W.cell? ⟨B, 3, none⟩ = some (.bool g)
  c4 : W.cell? ⟨B, 4, none⟩ = some (.int .u8 f)
  c5 : W.cell? ⟨B, 5, none⟩ = some ps
  c6 : W.cell? ⟨B, 6, none⟩ = some ts
theorem Op7.keep {W W' : World} {B : Nat} {k a c : Int} {g : Bool} {f : Int} {ps ts : Value} {E : Nat → Prop} (h : Op7 W B k a c g f ps ts) (hk : Keep E W W') (hE : ¬ E B) : Op7 W' B k a c g f ps ts := by
  have hb := hk.at_ B h.lt hE
  have hz := hk.size
  exact ⟨fun o => (hb.2 o).trans (h.free o), by have := h.lt; omega, (hb.1 _).trans h.c0, (hb.1 _).trans h.c1, (hb.1 _).trans h.c2, (hb.1 _).trans h.c3, (hb.1 _).trans h.c4, (hb.1 _).trans h.c5, (hb.1 _).trans h.c6⟩
theorem Op7.up {W W' : World} {B : Nat} {k a c : Int} {g : Bool} {f : Int} {ps ts : Value} (h : Op7 W B k a c g f ps ts) (hu : Up W W') : Op7 W' B k a c g f ps ts := h.keep (E := fun _ => False) (Keep.of_up hu) (fun h => h)
theorem Op7.new (w : World) (k a c : Int) (g : Bool) (f : Int) (ps ts : Value) (B : Nat) (hB : B = w.heap.size) : Op7 (w.alloc (.cells #[.int .i64 k, .int .i64 a, .int .u8 c, .bool g, .int .u8 f, ps, ts] 463)) B k a c g f ps ts := by
  subst hB
  refine ⟨fun o => by simp [go_sem], by simp, ?_, ?_, ?_, ?_, ?_, ?_, ?_⟩ <;> simp [go_sem]
theorem Sc.tail1 [QP] {w : World} {b : Nat} {A : Option Addr} {n c : Nat} {x : Int} {r : List Int} {e0 : Int} (h : Sc w b A n c (x :: r) e0) :
    Calls Tryz.prog 404 #[.pointer (some ⟨b, 0, none⟩), .int .i64 1] w fun e w' => e = .returned (.slice A 1 1) ∧ (∃ A' n' c', Sc w' b A' n' c' r e0) ∧ Near b w w' := by
  have hl := h.sl.len
  simp at hl
  refine (take_ok (k := 1) h (by omega) (by omega)).mono ?_
  rintro e w' ⟨rfl, ⟨A', hs⟩, hk⟩
  exact ⟨rfl, ⟨_, _, _, hs⟩, hk⟩
theorem results_op {fn : Func} {tmps : Array Value} {w : World} {B : Nat} {k a c : Int} {g : Bool} {f : Int} {ps ts : Value} (hf : fn.results = #[.cell 2 463]) (hp : tmps.getD 2 undef = .pointer (some ⟨B, 0, none⟩)) (h : Op7 w B k a c g f ps ts) :
    (results fn tmps).run Tryz.prog w = .ok (.agg #[.int .i64 k, .int .i64 a, .int .u8 c, .bool g, .int .u8 f, ps, ts]) w := by
  have hp' : tmps[2]?.getD undef = .pointer (some ⟨B, 0, none⟩) := by simpa using hp
  have hl := run_loadVar_mid (P := Tryz.prog) w B 0 463 [.int .i64 k, .int .i64 a, .int .u8 c, .bool g, .int .u8 f, ps, ts] _ (fun j v hv => by
    match j, hv with
    | 0, hv => cases hv; exact h.c0
    | 1, hv => cases hv; exact h.c1
    | 2, hv => cases hv; exact h.c2
    | 3, hv => cases hv; exact h.c3
    | 4, hv => cases hv; exact h.c4
    | 5, hv => cases hv; exact h.c5
    | 6, hv => cases hv; exact h.c6) Tryz.underlying463 rfl (by kernel_rfl)
  simp [results, hf, hp', asAddr, hl]
theorem Op7.s0 {W : World} {B : Nat} {k a c : Int} {g : Bool} {f : Int} {ps ts : Value} (h : Op7 W B k a c g f ps ts) (v : Int) : Op7 (W.setCell ⟨B, 0, none⟩ (.int .i64 v)) B v a c g f ps ts :=
  ⟨fun o => by rw [World.frozen?_setCell]; exact h.free o, by simpa using h.lt, World.cell?_setCell_same (h := h.c0) .., (World.cell?_setCell_other _ _ _ _ (by simp)).trans h.c1, (World.cell?_setCell_other _ _ _ _ (by simp)).trans h.c2, (World.cell?_setCell_other _ _ _ _ (by simp)).trans h.c3, (World.cell?_setCell_other _ _ _ _ (by simp)).trans h.c4, (World.cell?_setCell_other _ _ _ _ (by simp)).trans h.c5, (World.cell?_setCell_other _ _ _ _ (by simp)).trans h.c6⟩
theorem Op7.s1 {W : World} {B : Nat} {k a c : Int} {g : Bool} {f : Int} {ps ts : Value} (h : Op7 W B k a c g f ps ts) (v : Int) : Op7 (W.setCell ⟨B, 1, none⟩ (.int .i64 v)) B k v c g f ps ts :=
  ⟨fun o => by rw [World.frozen?_setCell]; exact h.free o, by simpa using h.lt, (World.cell?_setCell_other _ _ _ _ (by simp)).trans h.c0, World.cell?_setCell_same (h := h.c1) .., (World.cell?_setCell_other _ _ _ _ (by simp)).trans h.c2, (World.cell?_setCell_other _ _ _ _ (by simp)).trans h.c3, (World.cell?_setCell_other _ _ _ _ (by simp)).trans h.c4, (World.cell?_setCell_other _ _ _ _ (by simp)).trans h.c5, (World.cell?_setCell_other _ _ _ _ (by simp)).trans h.c6⟩
theorem Op7.s2 {W : World} {B : Nat} {k a c : Int} {g : Bool} {f : Int} {ps ts : Value} (h : Op7 W B k a c g f ps ts) (v : Int) : Op7 (W.setCell ⟨B, 2, none⟩ (.int .u8 v)) B k a v g f ps ts :=
  ⟨fun o => by rw [World.frozen?_setCell]; exact h.free o, by simpa using h.lt, (World.cell?_setCell_other _ _ _ _ (by simp)).trans h.c0, (World.cell?_setCell_other _ _ _ _ (by simp)).trans h.c1, World.cell?_setCell_same (h := h.c2) .., (World.cell?_setCell_other _ _ _ _ (by simp)).trans h.c3, (World.cell?_setCell_other _ _ _ _ (by simp)).trans h.c4, (World.cell?_setCell_other _ _ _ _ (by simp)).trans h.c5, (World.cell?_setCell_other _ _ _ _ (by simp)).trans h.c6⟩
theorem Op7.s3 {W : World} {B : Nat} {k a c : Int} {g : Bool} {f : Int} {ps ts : Value} (h : Op7 W B k a c g f ps ts) (v : Bool) : Op7 (W.setCell ⟨B, 3, none⟩ (.bool v)) B k a c v f ps ts :=
  ⟨fun o => by rw [World.frozen?_setCell]; exact h.free o, by simpa using h.lt, (World.cell?_setCell_other _ _ _ _ (by simp)).trans h.c0, (World.cell?_setCell_other _ _ _ _ (by simp)).trans h.c1, (World.cell?_setCell_other _ _ _ _ (by simp)).trans h.c2, World.cell?_setCell_same (h := h.c3) .., (World.cell?_setCell_other _ _ _ _ (by simp)).trans h.c4, (World.cell?_setCell_other _ _ _ _ (by simp)).trans h.c5, (World.cell?_setCell_other _ _ _ _ (by simp)).trans h.c6⟩
theorem Op7.s4 {W : World} {B : Nat} {k a c : Int} {g : Bool} {f : Int} {ps ts : Value} (h : Op7 W B k a c g f ps ts) (v : Int) : Op7 (W.setCell ⟨B, 4, none⟩ (.int .u8 v)) B k a c g v ps ts :=
  ⟨fun o => by rw [World.frozen?_setCell]; exact h.free o, by simpa using h.lt, (World.cell?_setCell_other _ _ _ _ (by simp)).trans h.c0, (World.cell?_setCell_other _ _ _ _ (by simp)).trans h.c1, (World.cell?_setCell_other _ _ _ _ (by simp)).trans h.c2, (World.cell?_setCell_other _ _ _ _ (by simp)).trans h.c3, World.cell?_setCell_same (h := h.c4) .., (World.cell?_setCell_other _ _ _ _ (by simp)).trans h.c5, (World.cell?_setCell_other _ _ _ _ (by simp)).trans h.c6⟩
theorem Op7.s5 {W : World} {B : Nat} {k a c : Int} {g : Bool} {f : Int} {ps ts : Value} (h : Op7 W B k a c g f ps ts) (v : Value) : Op7 (W.setCell ⟨B, 5, none⟩ v) B k a c g f v ts :=
  ⟨fun o => by rw [World.frozen?_setCell]; exact h.free o, by simpa using h.lt, (World.cell?_setCell_other _ _ _ _ (by simp)).trans h.c0, (World.cell?_setCell_other _ _ _ _ (by simp)).trans h.c1, (World.cell?_setCell_other _ _ _ _ (by simp)).trans h.c2, (World.cell?_setCell_other _ _ _ _ (by simp)).trans h.c3, (World.cell?_setCell_other _ _ _ _ (by simp)).trans h.c4, World.cell?_setCell_same (h := h.c5) .., (World.cell?_setCell_other _ _ _ _ (by simp)).trans h.c6⟩
theorem Op7.s6 {W : World} {B : Nat} {k a c : Int} {g : Bool} {f : Int} {ps ts : Value} (h : Op7 W B k a c g f ps ts) (v : Value) : Op7 (W.setCell ⟨B, 6, none⟩ v) B k a c g f ps v :=
  ⟨fun o => by rw [World.frozen?_setCell]; exact h.free o, by simpa using h.lt, (World.cell?_setCell_other _ _ _ _ (by simp)).trans h.c0, (World.cell?_setCell_other _ _ _ _ (by simp)).trans h.c1, (World.cell?_setCell_other _ _ _ _ (by simp)).trans h.c2, (World.cell?_setCell_other _ _ _ _ (by simp)).trans h.c3, (World.cell?_setCell_other _ _ _ _ (by simp)).trans h.c4, (World.cell?_setCell_other _ _ _ _ (by simp)).trans h.c5, World.cell?_setCell_same (h := h.c6) ..⟩
def st7 (W : World) (B : Nat) (k a c : Int) (g : Bool) (f : Int) (ps ts : Value) : World :=
  ((((((W.setCell ⟨B, 0, none⟩ (.int .i64 k)).setCell ⟨B, 1, none⟩ (.int .i64 a)).setCell ⟨B, 2, none⟩ (.int .u8 c)).setCell ⟨B, 3, none⟩ (.bool g)).setCell ⟨B, 4, none⟩ (.int .u8 f)).setCell ⟨B, 5, none⟩ ps).setCell ⟨B, 6, none⟩ ts
theorem Op7.st {W : World} {B : Nat} {k a c : Int} {g : Bool} {f : Int} {ps ts : Value} (h : Op7 W B k a c g f ps ts) (k' a' c' : Int) (g' : Bool) (f' : Int) (ps' ts' : Value) : Op7 (st7 W B k' a' c' g' f' ps' ts') B k' a' c' g' f' ps' ts' :=
  ((((((h.s0 k').s1 a').s2 c').s3 g').s4 f').s5 ps').s6 ts'
theorem st7_keep (W : World) (B : Nat) (k a c : Int) (g : Bool) (f : Int) (ps ts : Value) {E : Nat → Prop} (hE : E B) : Keep E W (st7 W B k a c g f ps ts) :=
  ((((((Keep.setCell (Keep.refl E W) (p := ⟨B, 0, none⟩) (.inl hE) _).setCell (p := ⟨B, 1, none⟩) (.inl hE) _).setCell (p := ⟨B, 2, none⟩) (.inl hE) _).setCell (p := ⟨B, 3, none⟩) (.inl hE) _).setCell (p := ⟨B, 4, none⟩) (.inl hE) _).setCell (p := ⟨B, 5, none⟩) (.inl hE) _).setCell (p := ⟨B, 6, none⟩) (.inl hE) _
theorem near_of {b : Nat} {w W W' : World} (h : Near b w W) (hk : Keep (fun k => w.heap.size ≤ k) W W') : Near b w W' := by
  have h1 : Keep (fun k => k = b ∨ w.heap.size ≤ k) w W' := (Keep.mono h (fun k e => .inl e)).trans (hk.mono (fun k e => .inr e))
  exact ⟨h1.os, h1.tape, h1.output, h1.size, fun i hi hn => h1.block i hi (fun e => by rcases e with e | e; exact hn e; omega)⟩
def noS : Value := .slice none 0 0
/-- an order, or a text -/
structure OpP where
  kind : Int
  addr : Int
  code : Int
  graph : Bool
  fa : Int
  prs : List (Int × Int)
  tx : List Int
def GoodOp [QP] (w : World) (b : Nat) (r : List Int) (o : OpP) (e : Ending) (w' : World) : Prop :=
  ∃ Ap np cp At nt ct, e = .returned (.agg #[.int .i64 o.kind, .int .i64 o.addr, .int .u8 o.code, .bool o.graph, .int .u8 o.fa, .slice Ap np cp, .slice At nt ct]) ∧ Pr w.heap.size w' Ap np cp o.prs ∧ Sl w.heap.size w' At nt ct o.tx ∧ (∃ A' n' c', Sc w' b A' n' c' r 0) ∧ Near b w w'
def BadOp [QP] (w : World) (b : Nat) (e : Ending) (w' : World) : Prop :=
  ∃ (k a c : Int) (g : Bool) (f : Int) (Ap : Option Addr) (np cp : Nat) (At : Option Addr) (nt ct : Nat) (A' : Option Addr) (n' c' : Nat) (l' : List Int) (e1 : Int), e = .returned (.agg #[.int .i64 k, .int .i64 a, .int .u8 c, .bool g, .int .u8 f, .slice Ap np cp, .slice At nt ct]) ∧ e1 ≠ 0 ∧ Sc w' b A' n' c' l' e1 ∧ Near b w w'
set_option maxHeartbeats 3200000 in
theorem op_addr17 [QP] {w : World} {b : Nat} {A : Option Addr} {n c : Nat} {y z : Int} {r : List Int} (h : Sc w b A n c (17 :: y :: z :: r) 0) (hd : decE 12 y = 0) :
    Calls Tryz.prog 383 #[.pointer (some ⟨b, 0, none⟩)] w (GoodOp w b r ⟨17, decN 12 y z, 0, false, 0, [], []⟩) := by
  obtain ⟨v, hv⟩ : ∃ v, decN 12 y z = v := ⟨_, rfl⟩
  have HA := Lib.hid (fun W A n c (h : Sc W b A n c (y :: z :: r) 0) => addr_ok h hd)
  rw [hv] at HA ⊢
  clear hv hd
  have HI := Lib.hid (fun w => is_is (h.sl.bytes 17 (by simp)) w)
  have HT := Lib.hid (fun W (hu : Up w W) => (h.up hu).tail1)
  obtain ⟨g, off, rfl, zg, hgb, hx0⟩ := h.cell (i := 0) (by have := h.sl.len; simp at this; omega)
  simp only [List.getD_cons_zero, Nat.add_zero] at hx0
  have hn : (0 : Int) < (n : Int) := by have := h.sl.len; simp at this; omega
  have s0 := h.c0
  have zb := h.lt
  have HB := Lib.hid h.lt
  rw [show isOrd 17 = true from rfl] at HI
  clear h
  go_enter Tryz.func383, Tryz.ntmps383
  go_wp2_with fail
  refine (HI.out _).mono ?_
  rintro e w1 ⟨rfl, rfl⟩
  have HR0 := Lib.hid (Op7.new w 0 0 0 false 0 noS noS w.heap.size rfl)
  have HU0 := Lib.hid ((Up.refl w).alloc (.cells #[.int .i64 0, .int .i64 0, .int .u8 0, .bool false, .int .u8 0, .slice none 0 0, .slice none 0 0] 463))
  go_wp2_with fail
  refine (HT.out _ HU0.out).mono ?_
  rintro e w2 ⟨rfl, ⟨A2, n2, c2, hs2⟩, hk2⟩
  have d0 := ((hk2.at_ g (by simp; omega) hgb).1 off).trans ((((Up.refl w).alloc (.cells #[.int .i64 0, .int .i64 0, .int .u8 0, .bool false, .int .u8 0, .slice none 0 0, .slice none 0 0] 463)).at_ g zg).1 off |>.trans hx0)
  have zg2 := cell_lt d0
  simp only at zg2
  have HR2 := Lib.hid (HR0.out.keep hk2 (by omega))
  have HS2 := Lib.hid hs2
  have HN2 := Lib.hid (show Near b w w2 from (Keep.of_up HU0.out).trans hk2)
  have z2 := hk2.size
  simp at z2
  clear hs2 hk2 s0 hx0
  go_wp2_with fail
  refine (HA.out _ _ _ _ (HS2.out.up ((Up.refl _).alloc _))).mono ?_
  rintro e w3 ⟨rfl, ⟨A3, n3, c3, hs3⟩, hk3⟩
  have HO3 := Lib.hid ((Op7.new w2 17 0 0 false 0 noS noS w2.heap.size rfl).keep hk3 (by have := HS2.out.lt; omega))
  have HR3 := Lib.hid ((HR2.out.up ((Up.refl _).alloc _)).keep hk3 (by have := HB.out; omega))
  have HS3 := Lib.hid hs3
  have HN3 := Lib.hid (show Near b w w3 from (HN2.out.up ((Up.refl _).alloc _)).trans hk3)
  clear hs3 hk3 d0 zg2
  obtain ⟨of, olt, o0, o1, o2, o3, o4, o5, o6⟩ := HO3.out
  obtain ⟨rf, rlt, r0, r1, r2, r3, r4, r5, r6⟩ := HR3.out
  unfold noS at o5 o6 r5 r6
  go_wp2_with fail
  have hk := (Keep.setCell (Keep.refl (fun k => k = w.heap.size ∨ k = w2.heap.size) w3) (p := ⟨w2.heap.size, 1, none⟩) (.inl (.inr rfl)) (.int .i64 v)).trans (st7_keep _ w.heap.size 17 v 0 false 0 noS noS (.inl rfl))
  have hn := near_of HN3.out (hk.mono (fun k e => by rcases e with rfl | rfl <;> omega))
  have hs := HS3.out.far hk (fun k e => by have := HB.out; rcases e with rfl | rfl <;> omega)
  refine bodyPost_ret (results_op rfl rfl ((HR3.out.keep (near_set w3 w2.heap.size 1 (.int .i64 v)) (by omega)).st 17 v 0 false 0 noS noS)) rfl ?_
  exact ⟨_, _, _, _, _, _, rfl, Pr.none_, Sl.none_, ⟨_, _, _, hs⟩, hn⟩
set_option maxHeartbeats 3200000 in
theorem op_addr17_no [QP] {w : World} {b : Nat} {A : Option Addr} {n c : Nat}  {r : List Int} (h : Sc w b A n c (17 :: r) 0) (hd : r.length < 2 ∨ decE 12 (r.getD 0 0) ≠ 0) :
    Calls Tryz.prog 383 #[.pointer (some ⟨b, 0, none⟩)] w (BadOp w b) := by
  have HA := Lib.hid (fun W A n c (h : Sc W b A n c r 0) => addr_no h hd)
  clear hd
  have HI := Lib.hid (fun w => is_is (h.sl.bytes 17 (by simp)) w)
  have HT := Lib.hid (fun W (hu : Up w W) => (h.up hu).tail1)
  obtain ⟨g, off, rfl, zg, hgb, hx0⟩ := h.cell (i := 0) (by have := h.sl.len; simp at this; omega)
  simp only [List.getD_cons_zero, Nat.add_zero] at hx0
  have hn : (0 : Int) < (n : Int) := by have := h.sl.len; simp at this; omega
  have s0 := h.c0
  have zb := h.lt
  have HB := Lib.hid h.lt
  rw [show isOrd 17 = true from rfl] at HI
  clear h
  go_enter Tryz.func383, Tryz.ntmps383
  go_wp2_with fail
  refine (HI.out _).mono ?_
  rintro e w1 ⟨rfl, rfl⟩
  have HR0 := Lib.hid (Op7.new w 0 0 0 false 0 noS noS w.heap.size rfl)
  have HU0 := Lib.hid ((Up.refl w).alloc (.cells #[.int .i64 0, .int .i64 0, .int .u8 0, .bool false, .int .u8 0, .slice none 0 0, .slice none 0 0] 463))
  go_wp2_with fail
  refine (HT.out _ HU0.out).mono ?_
  rintro e w2 ⟨rfl, ⟨A2, n2, c2, hs2⟩, hk2⟩
  have d0 := ((hk2.at_ g (by simp; omega) hgb).1 off).trans ((((Up.refl w).alloc (.cells #[.int .i64 0, .int .i64 0, .int .u8 0, .bool false, .int .u8 0, .slice none 0 0, .slice none 0 0] 463)).at_ g zg).1 off |>.trans hx0)
  have zg2 := cell_lt d0
  simp only at zg2
  have HR2 := Lib.hid (HR0.out.keep hk2 (by omega))
  have HS2 := Lib.hid hs2
  have HN2 := Lib.hid (show Near b w w2 from (Keep.of_up HU0.out).trans hk2)
  have z2 := hk2.size
  simp at z2
  clear hs2 hk2 s0 hx0
  go_wp2_with fail
  refine (HA.out _ _ _ _ (HS2.out.up ((Up.refl _).alloc _))).mono ?_
  rintro e w3 ⟨v, A3, n3, c3, l3, e3, rfl, he, hs3, hk3⟩
  have HO3 := Lib.hid ((Op7.new w2 17 0 0 false 0 noS noS w2.heap.size rfl).keep hk3 (by have := HS2.out.lt; omega))
  have HR3 := Lib.hid ((HR2.out.up ((Up.refl _).alloc _)).keep hk3 (by have := HB.out; omega))
  have HS3 := Lib.hid hs3
  have HN3 := Lib.hid (show Near b w w3 from (HN2.out.up ((Up.refl _).alloc _)).trans hk3)
  have HE := Lib.hid he
  clear he
  clear hs3 hk3 d0 zg2
  obtain ⟨of, olt, o0, o1, o2, o3, o4, o5, o6⟩ := HO3.out
  obtain ⟨rf, rlt, r0, r1, r2, r3, r4, r5, r6⟩ := HR3.out
  unfold noS at o5 o6 r5 r6
  go_wp2_with fail
  have hk := (Keep.setCell (Keep.refl (fun k => k = w.heap.size ∨ k = w2.heap.size) w3) (p := ⟨w2.heap.size, 1, none⟩) (.inl (.inr rfl)) (.int .i64 v)).trans (st7_keep _ w.heap.size 17 v 0 false 0 noS noS (.inl rfl))
  have hn := near_of HN3.out (hk.mono (fun k e => by rcases e with rfl | rfl <;> omega))
  have hs := HS3.out.far hk (fun k e => by have := HB.out; rcases e with rfl | rfl <;> omega)
  refine bodyPost_ret (results_op rfl rfl ((HR3.out.keep (near_set w3 w2.heap.size 1 (.int .i64 v)) (by omega)).st 17 v 0 false 0 noS noS)) rfl ?_
  exact ⟨_, _, _, _, _, _, _, _, _, _, _, _, _, _, _, _, rfl, HE.out, hs, hn⟩
set_option maxHeartbeats 3200000 in
theorem op_addr18 [QP] {w : World} {b : Nat} {A : Option Addr} {n c : Nat} {y z : Int} {r : List Int} (h : Sc w b A n c (18 :: y :: z :: r) 0) (hd : decE 12 y = 0) :
    Calls Tryz.prog 383 #[.pointer (some ⟨b, 0, none⟩)] w (GoodOp w b r ⟨18, decN 12 y z, 0, false, 0, [], []⟩) := by
  obtain ⟨v, hv⟩ : ∃ v, decN 12 y z = v := ⟨_, rfl⟩
  have HA := Lib.hid (fun W A n c (h : Sc W b A n c (y :: z :: r) 0) => addr_ok h hd)
  rw [hv] at HA ⊢
  clear hv hd
  have HI := Lib.hid (fun w => is_is (h.sl.bytes 18 (by simp)) w)
  have HT := Lib.hid (fun W (hu : Up w W) => (h.up hu).tail1)
  obtain ⟨g, off, rfl, zg, hgb, hx0⟩ := h.cell (i := 0) (by have := h.sl.len; simp at this; omega)
  simp only [List.getD_cons_zero, Nat.add_zero] at hx0
  have hn : (0 : Int) < (n : Int) := by have := h.sl.len; simp at this; omega
  have s0 := h.c0
  have zb := h.lt
  have HB := Lib.hid h.lt
  rw [show isOrd 18 = true from rfl] at HI
  clear h
  go_enter Tryz.func383, Tryz.ntmps383
  go_wp2_with fail
  refine (HI.out _).mono ?_
  rintro e w1 ⟨rfl, rfl⟩
  have HR0 := Lib.hid (Op7.new w 0 0 0 false 0 noS noS w.heap.size rfl)
  have HU0 := Lib.hid ((Up.refl w).alloc (.cells #[.int .i64 0, .int .i64 0, .int .u8 0, .bool false, .int .u8 0, .slice none 0 0, .slice none 0 0] 463))
  go_wp2_with fail
  refine (HT.out _ HU0.out).mono ?_
  rintro e w2 ⟨rfl, ⟨A2, n2, c2, hs2⟩, hk2⟩
  have d0 := ((hk2.at_ g (by simp; omega) hgb).1 off).trans ((((Up.refl w).alloc (.cells #[.int .i64 0, .int .i64 0, .int .u8 0, .bool false, .int .u8 0, .slice none 0 0, .slice none 0 0] 463)).at_ g zg).1 off |>.trans hx0)
  have zg2 := cell_lt d0
  simp only at zg2
  have HR2 := Lib.hid (HR0.out.keep hk2 (by omega))
  have HS2 := Lib.hid hs2
  have HN2 := Lib.hid (show Near b w w2 from (Keep.of_up HU0.out).trans hk2)
  have z2 := hk2.size
  simp at z2
  clear hs2 hk2 s0 hx0
  go_wp2_with fail
  refine (HA.out _ _ _ _ (HS2.out.up ((Up.refl _).alloc _))).mono ?_
  rintro e w3 ⟨rfl, ⟨A3, n3, c3, hs3⟩, hk3⟩
  have HO3 := Lib.hid ((Op7.new w2 18 0 0 false 0 noS noS w2.heap.size rfl).keep hk3 (by have := HS2.out.lt; omega))
  have HR3 := Lib.hid ((HR2.out.up ((Up.refl _).alloc _)).keep hk3 (by have := HB.out; omega))
  have HS3 := Lib.hid hs3
  have HN3 := Lib.hid (show Near b w w3 from (HN2.out.up ((Up.refl _).alloc _)).trans hk3)
  clear hs3 hk3 d0 zg2
  obtain ⟨of, olt, o0, o1, o2, o3, o4, o5, o6⟩ := HO3.out
  obtain ⟨rf, rlt, r0, r1, r2, r3, r4, r5, r6⟩ := HR3.out
  unfold noS at o5 o6 r5 r6
  go_wp2_with fail
  have hk := (Keep.setCell (Keep.refl (fun k => k = w.heap.size ∨ k = w2.heap.size) w3) (p := ⟨w2.heap.size, 1, none⟩) (.inl (.inr rfl)) (.int .i64 v)).trans (st7_keep _ w.heap.size 18 v 0 false 0 noS noS (.inl rfl))
  have hn := near_of HN3.out (hk.mono (fun k e => by rcases e with rfl | rfl <;> omega))
  have hs := HS3.out.far hk (fun k e => by have := HB.out; rcases e with rfl | rfl <;> omega)
  refine bodyPost_ret (results_op rfl rfl ((HR3.out.keep (near_set w3 w2.heap.size 1 (.int .i64 v)) (by omega)).st 18 v 0 false 0 noS noS)) rfl ?_
  exact ⟨_, _, _, _, _, _, rfl, Pr.none_, Sl.none_, ⟨_, _, _, hs⟩, hn⟩
set_option maxHeartbeats 3200000 in
theorem op_addr18_no [QP] {w : World} {b : Nat} {A : Option Addr} {n c : Nat}  {r : List Int} (h : Sc w b A n c (18 :: r) 0) (hd : r.length < 2 ∨ decE 12 (r.getD 0 0) ≠ 0) :
    Calls Tryz.prog 383 #[.pointer (some ⟨b, 0, none⟩)] w (BadOp w b) := by
  have HA := Lib.hid (fun W A n c (h : Sc W b A n c r 0) => addr_no h hd)
  clear hd
  have HI := Lib.hid (fun w => is_is (h.sl.bytes 18 (by simp)) w)
  have HT := Lib.hid (fun W (hu : Up w W) => (h.up hu).tail1)
  obtain ⟨g, off, rfl, zg, hgb, hx0⟩ := h.cell (i := 0) (by have := h.sl.len; simp at this; omega)
  simp only [List.getD_cons_zero, Nat.add_zero] at hx0
  have hn : (0 : Int) < (n : Int) := by have := h.sl.len; simp at this; omega
  have s0 := h.c0
  have zb := h.lt
  have HB := Lib.hid h.lt
  rw [show isOrd 18 = true from rfl] at HI
  clear h
  go_enter Tryz.func383, Tryz.ntmps383
  go_wp2_with fail
  refine (HI.out _).mono ?_
  rintro e w1 ⟨rfl, rfl⟩
  have HR0 := Lib.hid (Op7.new w 0 0 0 false 0 noS noS w.heap.size rfl)
  have HU0 := Lib.hid ((Up.refl w).alloc (.cells #[.int .i64 0, .int .i64 0, .int .u8 0, .bool false, .int .u8 0, .slice none 0 0, .slice none 0 0] 463))
  go_wp2_with fail
  refine (HT.out _ HU0.out).mono ?_
  rintro e w2 ⟨rfl, ⟨A2, n2, c2, hs2⟩, hk2⟩
  have d0 := ((hk2.at_ g (by simp; omega) hgb).1 off).trans ((((Up.refl w).alloc (.cells #[.int .i64 0, .int .i64 0, .int .u8 0, .bool false, .int .u8 0, .slice none 0 0, .slice none 0 0] 463)).at_ g zg).1 off |>.trans hx0)
  have zg2 := cell_lt d0
  simp only at zg2
  have HR2 := Lib.hid (HR0.out.keep hk2 (by omega))
  have HS2 := Lib.hid hs2
  have HN2 := Lib.hid (show Near b w w2 from (Keep.of_up HU0.out).trans hk2)
  have z2 := hk2.size
  simp at z2
  clear hs2 hk2 s0 hx0
  go_wp2_with fail
  refine (HA.out _ _ _ _ (HS2.out.up ((Up.refl _).alloc _))).mono ?_
  rintro e w3 ⟨v, A3, n3, c3, l3, e3, rfl, he, hs3, hk3⟩
  have HO3 := Lib.hid ((Op7.new w2 18 0 0 false 0 noS noS w2.heap.size rfl).keep hk3 (by have := HS2.out.lt; omega))
  have HR3 := Lib.hid ((HR2.out.up ((Up.refl _).alloc _)).keep hk3 (by have := HB.out; omega))
  have HS3 := Lib.hid hs3
  have HN3 := Lib.hid (show Near b w w3 from (HN2.out.up ((Up.refl _).alloc _)).trans hk3)
  have HE := Lib.hid he
  clear he
  clear hs3 hk3 d0 zg2
  obtain ⟨of, olt, o0, o1, o2, o3, o4, o5, o6⟩ := HO3.out
  obtain ⟨rf, rlt, r0, r1, r2, r3, r4, r5, r6⟩ := HR3.out
  unfold noS at o5 o6 r5 r6
  go_wp2_with fail
  have hk := (Keep.setCell (Keep.refl (fun k => k = w.heap.size ∨ k = w2.heap.size) w3) (p := ⟨w2.heap.size, 1, none⟩) (.inl (.inr rfl)) (.int .i64 v)).trans (st7_keep _ w.heap.size 18 v 0 false 0 noS noS (.inl rfl))
  have hn := near_of HN3.out (hk.mono (fun k e => by rcases e with rfl | rfl <;> omega))
  have hs := HS3.out.far hk (fun k e => by have := HB.out; rcases e with rfl | rfl <;> omega)
  refine bodyPost_ret (results_op rfl rfl ((HR3.out.keep (near_set w3 w2.heap.size 1 (.int .i64 v)) (by omega)).st 18 v 0 false 0 noS noS)) rfl ?_
  exact ⟨_, _, _, _, _, _, _, _, _, _, _, _, _, _, _, _, rfl, HE.out, hs, hn⟩
set_option maxHeartbeats 3200000 in
theorem op_ge [QP] {w : World} {b : Nat} {A : Option Addr} {n c : Nat} {y : Int} {r : List Int} (h : Sc w b A n c (8 :: y :: r) 0) (hd : isOrd y = false) :
    Calls Tryz.prog 383 #[.pointer (some ⟨b, 0, none⟩)] w (GoodOp w b r ⟨8, 0, y, false, 0, [], []⟩) := by
  have HA := Lib.hid (fun W A n c (h : Sc W b A n c (y :: r) 0) => char_ok h hd)
  clear hd
  have HI := Lib.hid (fun w => is_is (h.sl.bytes 8 (by simp)) w)
  have HT := Lib.hid (fun W (hu : Up w W) => (h.up hu).tail1)
  obtain ⟨g, off, rfl, zg, hgb, hx0⟩ := h.cell (i := 0) (by have := h.sl.len; simp at this; omega)
  simp only [List.getD_cons_zero, Nat.add_zero] at hx0
  have hn : (0 : Int) < (n : Int) := by have := h.sl.len; simp at this; omega
  have s0 := h.c0
  have zb := h.lt
  have HB := Lib.hid h.lt
  rw [show isOrd 8 = true from rfl] at HI
  clear h
  go_enter Tryz.func383, Tryz.ntmps383
  go_wp2_with fail
  refine (HI.out _).mono ?_
  rintro e w1 ⟨rfl, rfl⟩
  have HR0 := Lib.hid (Op7.new w 0 0 0 false 0 noS noS w.heap.size rfl)
  have HU0 := Lib.hid ((Up.refl w).alloc (.cells #[.int .i64 0, .int .i64 0, .int .u8 0, .bool false, .int .u8 0, .slice none 0 0, .slice none 0 0] 463))
  go_wp2_with fail
  refine (HT.out _ HU0.out).mono ?_
  rintro e w2 ⟨rfl, ⟨A2, n2, c2, hs2⟩, hk2⟩
  have d0 := ((hk2.at_ g (by simp; omega) hgb).1 off).trans ((((Up.refl w).alloc (.cells #[.int .i64 0, .int .i64 0, .int .u8 0, .bool false, .int .u8 0, .slice none 0 0, .slice none 0 0] 463)).at_ g zg).1 off |>.trans hx0)
  have zg2 := cell_lt d0
  simp only at zg2
  have HR2 := Lib.hid (HR0.out.keep hk2 (by omega))
  have HS2 := Lib.hid hs2
  have HN2 := Lib.hid (show Near b w w2 from (Keep.of_up HU0.out).trans hk2)
  have z2 := hk2.size
  simp at z2
  clear hs2 hk2 s0 hx0
  go_wp2_with fail
  refine (HA.out _ _ _ _ (HS2.out.up ((Up.refl _).alloc _))).mono ?_
  rintro e w3 ⟨rfl, ⟨A3, n3, c3, hs3⟩, hk3⟩
  have HO3 := Lib.hid ((Op7.new w2 8 0 0 false 0 noS noS w2.heap.size rfl).keep hk3 (by have := HS2.out.lt; omega))
  have HR3 := Lib.hid ((HR2.out.up ((Up.refl _).alloc _)).keep hk3 (by have := HB.out; omega))
  have HS3 := Lib.hid hs3
  have HN3 := Lib.hid (show Near b w w3 from (HN2.out.up ((Up.refl _).alloc _)).trans hk3)
  clear hs3 hk3 d0 zg2
  obtain ⟨of, olt, o0, o1, o2, o3, o4, o5, o6⟩ := HO3.out
  obtain ⟨rf, rlt, r0, r1, r2, r3, r4, r5, r6⟩ := HR3.out
  unfold noS at o5 o6 r5 r6
  go_wp2_with fail
  have hk := (Keep.setCell (Keep.refl (fun k => k = w.heap.size ∨ k = w2.heap.size) w3) (p := ⟨w2.heap.size, 2, none⟩) (.inl (.inr rfl)) (.int .u8 y)).trans (st7_keep _ w.heap.size 8 0 y false 0 noS noS (.inl rfl))
  have hn := near_of HN3.out (hk.mono (fun k e => by rcases e with rfl | rfl <;> omega))
  have hs := HS3.out.far hk (fun k e => by have := HB.out; rcases e with rfl | rfl <;> omega)
  refine bodyPost_ret (results_op rfl rfl ((HR3.out.keep (near_set w3 w2.heap.size 2 (.int .u8 y)) (by omega)).st 8 0 y false 0 noS noS)) rfl ?_
  exact ⟨_, _, _, _, _, _, rfl, Pr.none_, Sl.none_, ⟨_, _, _, hs⟩, hn⟩
set_option maxHeartbeats 3200000 in
theorem op_ge_no [QP] {w : World} {b : Nat} {A : Option Addr} {n c : Nat}  {r : List Int} (h : Sc w b A n c (8 :: r) 0) (hd : r = [] ∨ isOrd (r.getD 0 0) = true) :
    Calls Tryz.prog 383 #[.pointer (some ⟨b, 0, none⟩)] w (BadOp w b) := by
  have HA := Lib.hid (fun W A n c (h : Sc W b A n c r 0) => char_no h (.inr hd))
  clear hd
  have HI := Lib.hid (fun w => is_is (h.sl.bytes 8 (by simp)) w)
  have HT := Lib.hid (fun W (hu : Up w W) => (h.up hu).tail1)
  obtain ⟨g, off, rfl, zg, hgb, hx0⟩ := h.cell (i := 0) (by have := h.sl.len; simp at this; omega)
  simp only [List.getD_cons_zero, Nat.add_zero] at hx0
  have hn : (0 : Int) < (n : Int) := by have := h.sl.len; simp at this; omega
  have s0 := h.c0
  have zb := h.lt
  have HB := Lib.hid h.lt
  rw [show isOrd 8 = true from rfl] at HI
  clear h
  go_enter Tryz.func383, Tryz.ntmps383
  go_wp2_with fail
  refine (HI.out _).mono ?_
  rintro e w1 ⟨rfl, rfl⟩
  have HR0 := Lib.hid (Op7.new w 0 0 0 false 0 noS noS w.heap.size rfl)
  have HU0 := Lib.hid ((Up.refl w).alloc (.cells #[.int .i64 0, .int .i64 0, .int .u8 0, .bool false, .int .u8 0, .slice none 0 0, .slice none 0 0] 463))
  go_wp2_with fail
  refine (HT.out _ HU0.out).mono ?_
  rintro e w2 ⟨rfl, ⟨A2, n2, c2, hs2⟩, hk2⟩
  have d0 := ((hk2.at_ g (by simp; omega) hgb).1 off).trans ((((Up.refl w).alloc (.cells #[.int .i64 0, .int .i64 0, .int .u8 0, .bool false, .int .u8 0, .slice none 0 0, .slice none 0 0] 463)).at_ g zg).1 off |>.trans hx0)
  have zg2 := cell_lt d0
  simp only at zg2
  have HR2 := Lib.hid (HR0.out.keep hk2 (by omega))
  have HS2 := Lib.hid hs2
  have HN2 := Lib.hid (show Near b w w2 from (Keep.of_up HU0.out).trans hk2)
  have z2 := hk2.size
  simp at z2
  clear hs2 hk2 s0 hx0
  go_wp2_with fail
  refine (HA.out _ _ _ _ (HS2.out.up ((Up.refl _).alloc _))).mono ?_
  rintro e w3 ⟨v, A3, n3, c3, l3, e3, rfl, he, hs3, hk3⟩
  have HO3 := Lib.hid ((Op7.new w2 8 0 0 false 0 noS noS w2.heap.size rfl).keep hk3 (by have := HS2.out.lt; omega))
  have HR3 := Lib.hid ((HR2.out.up ((Up.refl _).alloc _)).keep hk3 (by have := HB.out; omega))
  have HS3 := Lib.hid hs3
  have HN3 := Lib.hid (show Near b w w3 from (HN2.out.up ((Up.refl _).alloc _)).trans hk3)
  have HE := Lib.hid he
  clear he
  clear hs3 hk3 d0 zg2
  obtain ⟨of, olt, o0, o1, o2, o3, o4, o5, o6⟩ := HO3.out
  obtain ⟨rf, rlt, r0, r1, r2, r3, r4, r5, r6⟩ := HR3.out
  unfold noS at o5 o6 r5 r6
  go_wp2_with fail
  have hk := (Keep.setCell (Keep.refl (fun k => k = w.heap.size ∨ k = w2.heap.size) w3) (p := ⟨w2.heap.size, 2, none⟩) (.inl (.inr rfl)) (.int .u8 v)).trans (st7_keep _ w.heap.size 8 0 v false 0 noS noS (.inl rfl))
  have hn := near_of HN3.out (hk.mono (fun k e => by rcases e with rfl | rfl <;> omega))
  have hs := HS3.out.far hk (fun k e => by have := HB.out; rcases e with rfl | rfl <;> omega)
  refine bodyPost_ret (results_op rfl rfl ((HR3.out.keep (near_set w3 w2.heap.size 2 (.int .u8 v)) (by omega)).st 8 0 v false 0 noS noS)) rfl ?_
  exact ⟨_, _, _, _, _, _, _, _, _, _, _, _, _, _, _, _, rfl, HE.out, hs, hn⟩
set_option maxHeartbeats 3200000 in
theorem op_sa [QP] {w : World} {b : Nat} {A : Option Addr} {n c : Nat} {y z : Int} {r : List Int} (h : Sc w b A n c (40 :: y :: z :: r) 0) (hd : rightB y z = true) :
    Calls Tryz.prog 383 #[.pointer (some ⟨b, 0, none⟩)] w (GoodOp w b r ⟨40, 0, 0, false, 0, [(y, z)], []⟩) := by
  have HA := Lib.hid (fun W A n c (h : Sc W b A n c (y :: z :: r) 0) => pair_ok h hd)
  clear hd
  have HI := Lib.hid (fun w => is_is (h.sl.bytes 40 (by simp)) w)
  have HT := Lib.hid (fun W (hu : Up w W) => (h.up hu).tail1)
  obtain ⟨g, off, rfl, zg, hgb, hx0⟩ := h.cell (i := 0) (by have := h.sl.len; simp at this; omega)
  simp only [List.getD_cons_zero, Nat.add_zero] at hx0
  have hn : (0 : Int) < (n : Int) := by have := h.sl.len; simp at this; omega
  have s0 := h.c0
  have zb := h.lt
  have HB := Lib.hid h.lt
  rw [show isOrd 40 = true from rfl] at HI
  clear h
  go_enter Tryz.func383, Tryz.ntmps383
  go_wp2_with fail
  refine (HI.out _).mono ?_
  rintro e w1 ⟨rfl, rfl⟩
  have HR0 := Lib.hid (Op7.new w 0 0 0 false 0 noS noS w.heap.size rfl)
  have HU0 := Lib.hid ((Up.refl w).alloc (.cells #[.int .i64 0, .int .i64 0, .int .u8 0, .bool false, .int .u8 0, .slice none 0 0, .slice none 0 0] 463))
  go_wp2_with fail
  refine (HT.out _ HU0.out).mono ?_
  rintro e w2 ⟨rfl, ⟨A2, n2, c2, hs2⟩, hk2⟩
  have d0 := ((hk2.at_ g (by simp; omega) hgb).1 off).trans ((((Up.refl w).alloc (.cells #[.int .i64 0, .int .i64 0, .int .u8 0, .bool false, .int .u8 0, .slice none 0 0, .slice none 0 0] 463)).at_ g zg).1 off |>.trans hx0)
  have zg2 := cell_lt d0
  simp only at zg2
  have HR2 := Lib.hid (HR0.out.keep hk2 (by omega))
  have HS2 := Lib.hid hs2
  have HN2 := Lib.hid (show Near b w w2 from (Keep.of_up HU0.out).trans hk2)
  have z2 := hk2.size
  simp at z2
  clear hs2 hk2 s0 hx0
  go_wp2_with fail
  refine (HA.out _ _ _ _ (HS2.out.up ((Up.refl _).alloc _))).mono ?_
  rintro e w3 ⟨Ap, rfl, hp3, ⟨A3, n3, c3, hs3⟩, hk3⟩
  have HO3 := Lib.hid ((Op7.new w2 40 0 0 false 0 noS noS w2.heap.size rfl).keep hk3 (by have := HS2.out.lt; omega))
  have HR3 := Lib.hid ((HR2.out.up ((Up.refl _).alloc _)).keep hk3 (by have := HB.out; omega))
  have HS3 := Lib.hid hs3
  have HN3 := Lib.hid (show Near b w w3 from (HN2.out.up ((Up.refl _).alloc _)).trans hk3)
  have HP3 := Lib.hid hp3
  clear hp3
  clear hs3 hk3 d0 zg2
  obtain ⟨of, olt, o0, o1, o2, o3, o4, o5, o6⟩ := HO3.out
  obtain ⟨rf, rlt, r0, r1, r2, r3, r4, r5, r6⟩ := HR3.out
  unfold noS at o5 o6 r5 r6
  go_wp2_with fail
  have hk := (Keep.setCell (Keep.refl (fun k => k = w.heap.size ∨ k = w2.heap.size) w3) (p := ⟨w2.heap.size, 5, none⟩) (.inl (.inr rfl)) (.slice Ap 1 1)).trans (st7_keep _ w.heap.size 40 0 0 false 0 (.slice Ap 1 1) noS (.inl rfl))
  have hn := near_of HN3.out (hk.mono (fun k e => by rcases e with rfl | rfl <;> omega))
  have hs := HS3.out.far hk (fun k e => by have := HB.out; rcases e with rfl | rfl <;> omega)
  refine bodyPost_ret (results_op rfl rfl ((HR3.out.keep (near_set w3 w2.heap.size 5 (.slice Ap 1 1)) (by omega)).st 40 0 0 false 0 (.slice Ap 1 1) noS)) rfl ?_
  exact ⟨_, _, _, _, _, _, rfl, (HP3.out.past hk (fun p hp e => by have := HP3.out.at_ p hp; simp at this; rcases e with e | e <;> omega)).low (by simp; omega), Sl.none_, ⟨_, _, _, hs⟩, hn⟩
set_option maxHeartbeats 3200000 in
theorem op_sa_no [QP] {w : World} {b : Nat} {A : Option Addr} {n c : Nat}  {r : List Int} (h : Sc w b A n c (40 :: r) 0) (hd : r.length < 2 ∨ rightB (r.getD 0 0) (r.getD 1 0) = false) :
    Calls Tryz.prog 383 #[.pointer (some ⟨b, 0, none⟩)] w (BadOp w b) := by
  have HA := Lib.hid (fun W A n c (h : Sc W b A n c r 0) => pair_no h hd)
  clear hd
  have HI := Lib.hid (fun w => is_is (h.sl.bytes 40 (by simp)) w)
  have HT := Lib.hid (fun W (hu : Up w W) => (h.up hu).tail1)
  obtain ⟨g, off, rfl, zg, hgb, hx0⟩ := h.cell (i := 0) (by have := h.sl.len; simp at this; omega)
  simp only [List.getD_cons_zero, Nat.add_zero] at hx0
  have hn : (0 : Int) < (n : Int) := by have := h.sl.len; simp at this; omega
  have s0 := h.c0
  have zb := h.lt
  have HB := Lib.hid h.lt
  rw [show isOrd 40 = true from rfl] at HI
  clear h
  go_enter Tryz.func383, Tryz.ntmps383
  go_wp2_with fail
  refine (HI.out _).mono ?_
  rintro e w1 ⟨rfl, rfl⟩
  have HR0 := Lib.hid (Op7.new w 0 0 0 false 0 noS noS w.heap.size rfl)
  have HU0 := Lib.hid ((Up.refl w).alloc (.cells #[.int .i64 0, .int .i64 0, .int .u8 0, .bool false, .int .u8 0, .slice none 0 0, .slice none 0 0] 463))
  go_wp2_with fail
  refine (HT.out _ HU0.out).mono ?_
  rintro e w2 ⟨rfl, ⟨A2, n2, c2, hs2⟩, hk2⟩
  have d0 := ((hk2.at_ g (by simp; omega) hgb).1 off).trans ((((Up.refl w).alloc (.cells #[.int .i64 0, .int .i64 0, .int .u8 0, .bool false, .int .u8 0, .slice none 0 0, .slice none 0 0] 463)).at_ g zg).1 off |>.trans hx0)
  have zg2 := cell_lt d0
  simp only at zg2
  have HR2 := Lib.hid (HR0.out.keep hk2 (by omega))
  have HS2 := Lib.hid hs2
  have HN2 := Lib.hid (show Near b w w2 from (Keep.of_up HU0.out).trans hk2)
  have z2 := hk2.size
  simp at z2
  clear hs2 hk2 s0 hx0
  go_wp2_with fail
  refine (HA.out _ _ _ _ (HS2.out.up ((Up.refl _).alloc _))).mono ?_
  rintro e w3 ⟨Ap, np, cp, A3, n3, c3, l3, e3, rfl, he, hs3, hk3⟩
  have HO3 := Lib.hid ((Op7.new w2 40 0 0 false 0 noS noS w2.heap.size rfl).keep hk3 (by have := HS2.out.lt; omega))
  have HR3 := Lib.hid ((HR2.out.up ((Up.refl _).alloc _)).keep hk3 (by have := HB.out; omega))
  have HS3 := Lib.hid hs3
  have HN3 := Lib.hid (show Near b w w3 from (HN2.out.up ((Up.refl _).alloc _)).trans hk3)
  have HE := Lib.hid he
  clear he
  clear hs3 hk3 d0 zg2
  obtain ⟨of, olt, o0, o1, o2, o3, o4, o5, o6⟩ := HO3.out
  obtain ⟨rf, rlt, r0, r1, r2, r3, r4, r5, r6⟩ := HR3.out
  unfold noS at o5 o6 r5 r6
  go_wp2_with fail
  have hk := (Keep.setCell (Keep.refl (fun k => k = w.heap.size ∨ k = w2.heap.size) w3) (p := ⟨w2.heap.size, 5, none⟩) (.inl (.inr rfl)) (.slice Ap np cp)).trans (st7_keep _ w.heap.size 40 0 0 false 0 (.slice Ap np cp) noS (.inl rfl))
  have hn := near_of HN3.out (hk.mono (fun k e => by rcases e with rfl | rfl <;> omega))
  have hs := HS3.out.far hk (fun k e => by have := HB.out; rcases e with rfl | rfl <;> omega)
  refine bodyPost_ret (results_op rfl rfl ((HR3.out.keep (near_set w3 w2.heap.size 5 (.slice Ap np cp)) (by omega)).st 40 0 0 false 0 (.slice Ap np cp) noS)) rfl ?_
  exact ⟨_, _, _, _, _, _, _, _, _, _, _, _, _, _, _, _, rfl, HE.out, hs, hn⟩
set_option maxHeartbeats 3200000 in
theorem op_prs41 [QP] {w : World} {b : Nat} {A : Option Addr} {n c : Nat} {q : List Int} {r : List Int} (h : Sc w b A n c (41 :: q) 0) (hd : 1 + 2 * numP q ≤ q.length) (hg : goodP q = true) (hr : q.drop (1 + 2 * numP q) = r) :
    Calls Tryz.prog 383 #[.pointer (some ⟨b, 0, none⟩)] w (GoodOp w b r ⟨41, 0, 0, false, 0, pairs q (numP q), []⟩) := by
  have HA := Lib.hid (fun W A n c (h : Sc W b A n c q 0) => pairs_ok h hd hg)
  rw [hr] at HA
  obtain ⟨m, hm⟩ : ∃ m, numP q = m := ⟨_, rfl⟩
  obtain ⟨L, hL⟩ : ∃ L, pairs q (numP q) = L := ⟨_, rfl⟩
  rw [hL] at HA ⊢
  rw [hm] at HA
  clear hd hg hr hm hL
  have HI := Lib.hid (fun w => is_is (h.sl.bytes 41 (by simp)) w)
  have HT := Lib.hid (fun W (hu : Up w W) => (h.up hu).tail1)
  obtain ⟨g, off, rfl, zg, hgb, hx0⟩ := h.cell (i := 0) (by have := h.sl.len; simp at this; omega)
  simp only [List.getD_cons_zero, Nat.add_zero] at hx0
  have hn : (0 : Int) < (n : Int) := by have := h.sl.len; simp at this; omega
  have s0 := h.c0
  have zb := h.lt
  have HB := Lib.hid h.lt
  rw [show isOrd 41 = true from rfl] at HI
  clear h
  go_enter Tryz.func383, Tryz.ntmps383
  go_wp2_with fail
  refine (HI.out _).mono ?_
  rintro e w1 ⟨rfl, rfl⟩
  have HR0 := Lib.hid (Op7.new w 0 0 0 false 0 noS noS w.heap.size rfl)
  have HU0 := Lib.hid ((Up.refl w).alloc (.cells #[.int .i64 0, .int .i64 0, .int .u8 0, .bool false, .int .u8 0, .slice none 0 0, .slice none 0 0] 463))
  go_wp2_with fail
  refine (HT.out _ HU0.out).mono ?_
  rintro e w2 ⟨rfl, ⟨A2, n2, c2, hs2⟩, hk2⟩
  have d0 := ((hk2.at_ g (by simp; omega) hgb).1 off).trans ((((Up.refl w).alloc (.cells #[.int .i64 0, .int .i64 0, .int .u8 0, .bool false, .int .u8 0, .slice none 0 0, .slice none 0 0] 463)).at_ g zg).1 off |>.trans hx0)
  have zg2 := cell_lt d0
  simp only at zg2
  have HR2 := Lib.hid (HR0.out.keep hk2 (by omega))
  have HS2 := Lib.hid hs2
  have HN2 := Lib.hid (show Near b w w2 from (Keep.of_up HU0.out).trans hk2)
  have z2 := hk2.size
  simp at z2
  clear hs2 hk2 s0 hx0
  go_wp2_with fail
  refine (HA.out _ _ _ _ (HS2.out.up ((Up.refl _).alloc _))).mono ?_
  rintro e w3 ⟨Ap, cp, rfl, hp3, ⟨A3, n3, c3, hs3⟩, hk3⟩
  have HO3 := Lib.hid ((Op7.new w2 41 0 0 false 0 noS noS w2.heap.size rfl).keep hk3 (by have := HS2.out.lt; omega))
  have HR3 := Lib.hid ((HR2.out.up ((Up.refl _).alloc _)).keep hk3 (by have := HB.out; omega))
  have HS3 := Lib.hid hs3
  have HN3 := Lib.hid (show Near b w w3 from (HN2.out.up ((Up.refl _).alloc _)).trans hk3)
  have HP3 := Lib.hid hp3
  clear hp3
  clear hs3 hk3 d0 zg2
  obtain ⟨of, olt, o0, o1, o2, o3, o4, o5, o6⟩ := HO3.out
  obtain ⟨rf, rlt, r0, r1, r2, r3, r4, r5, r6⟩ := HR3.out
  unfold noS at o5 o6 r5 r6
  go_wp2_with fail
  have hk := (Keep.setCell (Keep.refl (fun k => k = w.heap.size ∨ k = w2.heap.size) w3) (p := ⟨w2.heap.size, 5, none⟩) (.inl (.inr rfl)) (.slice Ap m cp)).trans (st7_keep _ w.heap.size 41 0 0 false 0 (.slice Ap m cp) noS (.inl rfl))
  have hn := near_of HN3.out (hk.mono (fun k e => by rcases e with rfl | rfl <;> omega))
  have hs := HS3.out.far hk (fun k e => by have := HB.out; rcases e with rfl | rfl <;> omega)
  refine bodyPost_ret (results_op rfl rfl ((HR3.out.keep (near_set w3 w2.heap.size 5 (.slice Ap m cp)) (by omega)).st 41 0 0 false 0 (.slice Ap m cp) noS)) rfl ?_
  exact ⟨_, _, _, _, _, _, rfl, (HP3.out.past hk (fun p hp e => by have := HP3.out.at_ p hp; simp at this; rcases e with e | e <;> omega)).low (by simp; omega), Sl.none_, ⟨_, _, _, hs⟩, hn⟩
set_option maxHeartbeats 3200000 in
theorem op_prs41_no [QP] {w : World} {b : Nat} {A : Option Addr} {n c : Nat}  {r : List Int} (h : Sc w b A n c (41 :: r) 0) (hd : r.length < 1 + 2 * numP r ∨ goodP r = false) :
    Calls Tryz.prog 383 #[.pointer (some ⟨b, 0, none⟩)] w (BadOp w b) := by
  have HA := Lib.hid (fun W A n c (h : Sc W b A n c r 0) => pairs_no h hd)
  clear hd
  have HI := Lib.hid (fun w => is_is (h.sl.bytes 41 (by simp)) w)
  have HT := Lib.hid (fun W (hu : Up w W) => (h.up hu).tail1)
  obtain ⟨g, off, rfl, zg, hgb, hx0⟩ := h.cell (i := 0) (by have := h.sl.len; simp at this; omega)
  simp only [List.getD_cons_zero, Nat.add_zero] at hx0
  have hn : (0 : Int) < (n : Int) := by have := h.sl.len; simp at this; omega
  have s0 := h.c0
  have zb := h.lt
  have HB := Lib.hid h.lt
  rw [show isOrd 41 = true from rfl] at HI
  clear h
  go_enter Tryz.func383, Tryz.ntmps383
  go_wp2_with fail
  refine (HI.out _).mono ?_
  rintro e w1 ⟨rfl, rfl⟩
  have HR0 := Lib.hid (Op7.new w 0 0 0 false 0 noS noS w.heap.size rfl)
  have HU0 := Lib.hid ((Up.refl w).alloc (.cells #[.int .i64 0, .int .i64 0, .int .u8 0, .bool false, .int .u8 0, .slice none 0 0, .slice none 0 0] 463))
  go_wp2_with fail
  refine (HT.out _ HU0.out).mono ?_
  rintro e w2 ⟨rfl, ⟨A2, n2, c2, hs2⟩, hk2⟩
  have d0 := ((hk2.at_ g (by simp; omega) hgb).1 off).trans ((((Up.refl w).alloc (.cells #[.int .i64 0, .int .i64 0, .int .u8 0, .bool false, .int .u8 0, .slice none 0 0, .slice none 0 0] 463)).at_ g zg).1 off |>.trans hx0)
  have zg2 := cell_lt d0
  simp only at zg2
  have HR2 := Lib.hid (HR0.out.keep hk2 (by omega))
  have HS2 := Lib.hid hs2
  have HN2 := Lib.hid (show Near b w w2 from (Keep.of_up HU0.out).trans hk2)
  have z2 := hk2.size
  simp at z2
  clear hs2 hk2 s0 hx0
  go_wp2_with fail
  refine (HA.out _ _ _ _ (HS2.out.up ((Up.refl _).alloc _))).mono ?_
  rintro e w3 ⟨Ap, np, cp, A3, n3, c3, l3, e3, rfl, he, hs3, hk3⟩
  have HO3 := Lib.hid ((Op7.new w2 41 0 0 false 0 noS noS w2.heap.size rfl).keep hk3 (by have := HS2.out.lt; omega))
  have HR3 := Lib.hid ((HR2.out.up ((Up.refl _).alloc _)).keep hk3 (by have := HB.out; omega))
  have HS3 := Lib.hid hs3
  have HN3 := Lib.hid (show Near b w w3 from (HN2.out.up ((Up.refl _).alloc _)).trans hk3)
  have HE := Lib.hid he
  clear he
  clear hs3 hk3 d0 zg2
  obtain ⟨of, olt, o0, o1, o2, o3, o4, o5, o6⟩ := HO3.out
  obtain ⟨rf, rlt, r0, r1, r2, r3, r4, r5, r6⟩ := HR3.out
  unfold noS at o5 o6 r5 r6
  go_wp2_with fail
  have hk := (Keep.setCell (Keep.refl (fun k => k = w.heap.size ∨ k = w2.heap.size) w3) (p := ⟨w2.heap.size, 5, none⟩) (.inl (.inr rfl)) (.slice Ap np cp)).trans (st7_keep _ w.heap.size 41 0 0 false 0 (.slice Ap np cp) noS (.inl rfl))
  have hn := near_of HN3.out (hk.mono (fun k e => by rcases e with rfl | rfl <;> omega))
  have hs := HS3.out.far hk (fun k e => by have := HB.out; rcases e with rfl | rfl <;> omega)
  refine bodyPost_ret (results_op rfl rfl ((HR3.out.keep (near_set w3 w2.heap.size 5 (.slice Ap np cp)) (by omega)).st 41 0 0 false 0 (.slice Ap np cp) noS)) rfl ?_
  exact ⟨_, _, _, _, _, _, _, _, _, _, _, _, _, _, _, _, rfl, HE.out, hs, hn⟩
set_option maxHeartbeats 3200000 in
theorem op_prs44 [QP] {w : World} {b : Nat} {A : Option Addr} {n c : Nat} {q : List Int} {r : List Int} (h : Sc w b A n c (44 :: q) 0) (hd : 1 + 2 * numP q ≤ q.length) (hg : goodP q = true) (hr : q.drop (1 + 2 * numP q) = r) :
    Calls Tryz.prog 383 #[.pointer (some ⟨b, 0, none⟩)] w (GoodOp w b r ⟨44, 0, 0, false, 0, pairs q (numP q), []⟩) := by
  have HA := Lib.hid (fun W A n c (h : Sc W b A n c q 0) => pairs_ok h hd hg)
  rw [hr] at HA
  obtain ⟨m, hm⟩ : ∃ m, numP q = m := ⟨_, rfl⟩
  obtain ⟨L, hL⟩ : ∃ L, pairs q (numP q) = L := ⟨_, rfl⟩
  rw [hL] at HA ⊢
  rw [hm] at HA
  clear hd hg hr hm hL
  have HI := Lib.hid (fun w => is_is (h.sl.bytes 44 (by simp)) w)
  have HT := Lib.hid (fun W (hu : Up w W) => (h.up hu).tail1)
  obtain ⟨g, off, rfl, zg, hgb, hx0⟩ := h.cell (i := 0) (by have := h.sl.len; simp at this; omega)
  simp only [List.getD_cons_zero, Nat.add_zero] at hx0
  have hn : (0 : Int) < (n : Int) := by have := h.sl.len; simp at this; omega
  have s0 := h.c0
  have zb := h.lt
  have HB := Lib.hid h.lt
  rw [show isOrd 44 = true from rfl] at HI
  clear h
  go_enter Tryz.func383, Tryz.ntmps383
  go_wp2_with fail
  refine (HI.out _).mono ?_
  rintro e w1 ⟨rfl, rfl⟩
  have HR0 := Lib.hid (Op7.new w 0 0 0 false 0 noS noS w.heap.size rfl)
  have HU0 := Lib.hid ((Up.refl w).alloc (.cells #[.int .i64 0, .int .i64 0, .int .u8 0, .bool false, .int .u8 0, .slice none 0 0, .slice none 0 0] 463))
  go_wp2_with fail
  refine (HT.out _ HU0.out).mono ?_
  rintro e w2 ⟨rfl, ⟨A2, n2, c2, hs2⟩, hk2⟩
  have d0 := ((hk2.at_ g (by simp; omega) hgb).1 off).trans ((((Up.refl w).alloc (.cells #[.int .i64 0, .int .i64 0, .int .u8 0, .bool false, .int .u8 0, .slice none 0 0, .slice none 0 0] 463)).at_ g zg).1 off |>.trans hx0)
  have zg2 := cell_lt d0
  simp only at zg2
  have HR2 := Lib.hid (HR0.out.keep hk2 (by omega))
  have HS2 := Lib.hid hs2
  have HN2 := Lib.hid (show Near b w w2 from (Keep.of_up HU0.out).trans hk2)
  have z2 := hk2.size
  simp at z2
  clear hs2 hk2 s0 hx0
  go_wp2_with fail
  refine (HA.out _ _ _ _ (HS2.out.up ((Up.refl _).alloc _))).mono ?_
  rintro e w3 ⟨Ap, cp, rfl, hp3, ⟨A3, n3, c3, hs3⟩, hk3⟩
  have HO3 := Lib.hid ((Op7.new w2 44 0 0 false 0 noS noS w2.heap.size rfl).keep hk3 (by have := HS2.out.lt; omega))
  have HR3 := Lib.hid ((HR2.out.up ((Up.refl _).alloc _)).keep hk3 (by have := HB.out; omega))
  have HS3 := Lib.hid hs3
  have HN3 := Lib.hid (show Near b w w3 from (HN2.out.up ((Up.refl _).alloc _)).trans hk3)
  have HP3 := Lib.hid hp3
  clear hp3
  clear hs3 hk3 d0 zg2
  obtain ⟨of, olt, o0, o1, o2, o3, o4, o5, o6⟩ := HO3.out
  obtain ⟨rf, rlt, r0, r1, r2, r3, r4, r5, r6⟩ := HR3.out
  unfold noS at o5 o6 r5 r6
  go_wp2_with fail
  have hk := (Keep.setCell (Keep.refl (fun k => k = w.heap.size ∨ k = w2.heap.size) w3) (p := ⟨w2.heap.size, 5, none⟩) (.inl (.inr rfl)) (.slice Ap m cp)).trans (st7_keep _ w.heap.size 44 0 0 false 0 (.slice Ap m cp) noS (.inl rfl))
  have hn := near_of HN3.out (hk.mono (fun k e => by rcases e with rfl | rfl <;> omega))
  have hs := HS3.out.far hk (fun k e => by have := HB.out; rcases e with rfl | rfl <;> omega)
  refine bodyPost_ret (results_op rfl rfl ((HR3.out.keep (near_set w3 w2.heap.size 5 (.slice Ap m cp)) (by omega)).st 44 0 0 false 0 (.slice Ap m cp) noS)) rfl ?_
  exact ⟨_, _, _, _, _, _, rfl, (HP3.out.past hk (fun p hp e => by have := HP3.out.at_ p hp; simp at this; rcases e with e | e <;> omega)).low (by simp; omega), Sl.none_, ⟨_, _, _, hs⟩, hn⟩
set_option maxHeartbeats 3200000 in
theorem op_prs44_no [QP] {w : World} {b : Nat} {A : Option Addr} {n c : Nat}  {r : List Int} (h : Sc w b A n c (44 :: r) 0) (hd : r.length < 1 + 2 * numP r ∨ goodP r = false) :
    Calls Tryz.prog 383 #[.pointer (some ⟨b, 0, none⟩)] w (BadOp w b) := by
  have HA := Lib.hid (fun W A n c (h : Sc W b A n c r 0) => pairs_no h hd)
  clear hd
  have HI := Lib.hid (fun w => is_is (h.sl.bytes 44 (by simp)) w)
  have HT := Lib.hid (fun W (hu : Up w W) => (h.up hu).tail1)
  obtain ⟨g, off, rfl, zg, hgb, hx0⟩ := h.cell (i := 0) (by have := h.sl.len; simp at this; omega)
  simp only [List.getD_cons_zero, Nat.add_zero] at hx0
  have hn : (0 : Int) < (n : Int) := by have := h.sl.len; simp at this; omega
  have s0 := h.c0
  have zb := h.lt
  have HB := Lib.hid h.lt
  rw [show isOrd 44 = true from rfl] at HI
  clear h
  go_enter Tryz.func383, Tryz.ntmps383
  go_wp2_with fail
  refine (HI.out _).mono ?_
  rintro e w1 ⟨rfl, rfl⟩
  have HR0 := Lib.hid (Op7.new w 0 0 0 false 0 noS noS w.heap.size rfl)
  have HU0 := Lib.hid ((Up.refl w).alloc (.cells #[.int .i64 0, .int .i64 0, .int .u8 0, .bool false, .int .u8 0, .slice none 0 0, .slice none 0 0] 463))
  go_wp2_with fail
  refine (HT.out _ HU0.out).mono ?_
  rintro e w2 ⟨rfl, ⟨A2, n2, c2, hs2⟩, hk2⟩
  have d0 := ((hk2.at_ g (by simp; omega) hgb).1 off).trans ((((Up.refl w).alloc (.cells #[.int .i64 0, .int .i64 0, .int .u8 0, .bool false, .int .u8 0, .slice none 0 0, .slice none 0 0] 463)).at_ g zg).1 off |>.trans hx0)
  have zg2 := cell_lt d0
  simp only at zg2
  have HR2 := Lib.hid (HR0.out.keep hk2 (by omega))
  have HS2 := Lib.hid hs2
  have HN2 := Lib.hid (show Near b w w2 from (Keep.of_up HU0.out).trans hk2)
  have z2 := hk2.size
  simp at z2
  clear hs2 hk2 s0 hx0
  go_wp2_with fail
  refine (HA.out _ _ _ _ (HS2.out.up ((Up.refl _).alloc _))).mono ?_
  rintro e w3 ⟨Ap, np, cp, A3, n3, c3, l3, e3, rfl, he, hs3, hk3⟩
  have HO3 := Lib.hid ((Op7.new w2 44 0 0 false 0 noS noS w2.heap.size rfl).keep hk3 (by have := HS2.out.lt; omega))
  have HR3 := Lib.hid ((HR2.out.up ((Up.refl _).alloc _)).keep hk3 (by have := HB.out; omega))
  have HS3 := Lib.hid hs3
  have HN3 := Lib.hid (show Near b w w3 from (HN2.out.up ((Up.refl _).alloc _)).trans hk3)
  have HE := Lib.hid he
  clear he
  clear hs3 hk3 d0 zg2
  obtain ⟨of, olt, o0, o1, o2, o3, o4, o5, o6⟩ := HO3.out
  obtain ⟨rf, rlt, r0, r1, r2, r3, r4, r5, r6⟩ := HR3.out
  unfold noS at o5 o6 r5 r6
  go_wp2_with fail
  have hk := (Keep.setCell (Keep.refl (fun k => k = w.heap.size ∨ k = w2.heap.size) w3) (p := ⟨w2.heap.size, 5, none⟩) (.inl (.inr rfl)) (.slice Ap np cp)).trans (st7_keep _ w.heap.size 44 0 0 false 0 (.slice Ap np cp) noS (.inl rfl))
  have hn := near_of HN3.out (hk.mono (fun k e => by rcases e with rfl | rfl <;> omega))
  have hs := HS3.out.far hk (fun k e => by have := HB.out; rcases e with rfl | rfl <;> omega)
  refine bodyPost_ret (results_op rfl rfl ((HR3.out.keep (near_set w3 w2.heap.size 5 (.slice Ap np cp)) (by omega)).st 44 0 0 false 0 (.slice Ap np cp) noS)) rfl ?_
  exact ⟨_, _, _, _, _, _, _, _, _, _, _, _, _, _, _, _, rfl, HE.out, hs, hn⟩
end Go.Proofs.YtamfjgioajmnpaaGreatDoor
