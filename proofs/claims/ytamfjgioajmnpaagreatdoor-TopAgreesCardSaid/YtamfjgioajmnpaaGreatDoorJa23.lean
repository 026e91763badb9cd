/-
A keyboard as it lies; what enter, char do at an open place of a field that is not numeric, when the keyboard does not insert.
A keyboard's char of a sign that may be entered, Press of that sign and of Enter, New, Restore, AID.
A keyboard's Press of a sign that may be entered and of Enter; New, Restore, AID.
slices' insertion sort of strings, pdqsort and Sort of few strings, cmp.Less. Conditions: at most twelve strings in a row of one's own.
-/
import Derived.Test.YtamfjgioajmnpaaGreatDoorJa22
import Derived.Test.YtamfjgioajmnpaaGreatDoorJa11
import Derived.Test.YtamfjgioajmnpaaGreatDoorJa12
import Derived.Deep.RegionHeldLaw
import Derived.Deep.DeepMust
import Derived.Test.YtamfjgioajmnpaaGreatDoorJa2
import Derived.IntWalk
import Derived.Deep.QuietTactic
import Derived.BigQuiet
import Derived.Deep.RegionLaw
namespace Go.Proofs.YtamfjgioajmnpaaGreatDoor
open Go.RowKit
set_option linter.unusedVariables false
set_option linter.unusedSimpArgs false

def kbVals (p pg : Nat) (lock : Int) (ins : Bool) (aid : Int) : List Value := [.pointer (some ⟨p, 0, none⟩), .pointer (some ⟨pg, 0, none⟩), .int .i64 lock, .bool ins, .int .u8 aid]
/-- a keyboard, its screen, its page -/
structure KbC (w : World) (bb p g pg : Nat) (Fp : Nat → Prop) (X : Spc) (k lock : Int) (ins : Bool) (aid : Int) : Prop where
  st : St w 260 bb (kbVals p pg lock ins aid)
  sp : SAt w p g X
  ok : X.Ok
  pa : PgA w pg Fp k
  n1 : bb ≠ p
  n2 : bb ≠ g
  n3 : ¬ Fp bb
  n4 : ¬ Fp p
  n5 : ¬ Fp g
section
variable {w w' : World} {bb p g pg : Nat} {Fp E : Nat → Prop} {X Y : Spc} {k lock : Int} {ins : Bool} {aid : Int}
theorem KbC.up (h : KbC w bb p g pg Fp X k lock ins aid) (hu : Up w w') : KbC w' bb p g pg Fp X k lock ins aid :=
  ⟨h.st.up hu, h.sp.up hu, h.ok, h.pa.up hu, h.n1, h.n2, h.n3, h.n4, h.n5⟩
/-- the screen is worked on -/
theorem KbC.two (h : KbC w bb p g pg Fp X k lock ins aid) (hk : Keep (two p g) w w') (hs : SAt w' p g Y) (ok : Y.Ok) : KbC w' bb p g pg Fp Y k lock ins aid :=
  ⟨h.st.keep hk (fun e => e.elim h.n1 h.n2), hs, ok, h.pa.keep hk (fun i hi e => e.elim (fun e => h.n4 (e ▸ hi)) (fun e => h.n5 (e ▸ hi))), h.n1, h.n2, h.n3, h.n4, h.n5⟩
end
theorem afterN_bd {X : Spc} (ok : X.Ok) : 0 ≤ afterN X ∧ afterN X < X.r * X.c := by
  have hp := Spc.pos ok
  have hm : ∀ a : Int, 0 ≤ a % (X.r * X.c) ∧ a % (X.r * X.c) < X.r * X.c := fun a => ⟨Int.emod_nonneg _ (by omega), Int.emod_lt_of_pos _ hp⟩
  unfold afterN
  split
  · split
    · exact tabN_bd ok _ _
    · exact hm _
  · exact hm _
theorem goTo_after {X : Spc} (ok : X.Ok) : (X.goTo (afterN X)).Ok := goTo_ok ok (afterN_bd ok).1 (afterN_bd ok).2
/-- what is there behind a code that was entered -/
def Spc.enter (X : Spc) (c : Int) : Spc := let Y := (X.set X.cur { X.at_ X.cur with ch := c, se := 0 }).modify X.cur
  Y.goTo (afterN Y)
set_option maxRecDepth 100000 in
set_option maxHeartbeats 3200000 in
theorem kenter_is {w : World} {bb p g pg : Nat} {Fp : Nat → Prop} {X : Spc} {k lock aid : Int} {c : Int} (h : KbC w bb p g pg Fp X k lock false aid) (hc : 0 ≤ c ∧ c ≤ 255) (hc8 : (c == 28) = false) (hst : 0 ≤ X.start X.cur) {f : Int} (hf : (X.at_ (X.start X.cur)).fa = f) (hN : fN f = false) (hO : X.open_ X.cur = true) :
    Calls Tryz.prog 200 #[.pointer (some ⟨bb, 0, none⟩), .int .u8 c] w fun e w' => e = .returned (.int .i64 0) ∧ KbC w' bb p g pg Fp (X.enter c) k lock false aid ∧ Keep (two p g) w w' := by
  have ok := h.ok
  obtain ⟨d, hd⟩ : ∃ d, X.at_ X.cur = d := ⟨_, rfl⟩
  obtain ⟨n, hn⟩ : ∃ n, X.cur = n := ⟨_, rfl⟩
  have hwf : Cl.Wf { d with ch := c, se := 0 } := by
    have := ok.at_wf X.cur
    rw [hd] at this
    exact ⟨hc, this.fa, this.hi, this.co, by simp [isB]⟩
  obtain ⟨Y, hY⟩ : ∃ Y, X.set n { d with ch := c, se := 0 } = Y := ⟨_, rfl⟩
  have okY : Y.Ok := hY ▸ ok.set n hwf
  have okZ : (Y.modify n).Ok := okY.modify n
  have hE : X.enter c = (Y.modify n).goTo (afterN (Y.modify n)) := by unfold Spc.enter; rw [hd, hn, hY]
  rw [hn] at hd hst hf hO
  have HCUR := Lib.hid (fun W (h' : SAt W p g X) => (hn ▸ scur_is h' : Calls Tryz.prog 39 #[.pointer (some ⟨p, 0, none⟩)] W fun e w' => e = .returned (.int .i64 n) ∧ W = w'))
  have HOF := Lib.hid (fun W (h' : SAt W p g X) => fof_some n h' ok hst hf)
  have HOP := Lib.hid (fun W (h' : SAt W p g X) => (hO ▸ fopen_is n h' ok : Calls Tryz.prog 249 #[.pointer (some ⟨p, 0, none⟩), .int .i64 n] W fun e w' => e = .returned (.bool true) ∧ Up W w'))
  have HAT := Lib.hid (fun W (h' : SAt W p g X) => sat_op n h' ok hd)
  have HSET := Lib.hid (fun W (h' : SAt W p g X) => sset_op n rfl hwf h' ok hY)
  have HMOD := Lib.hid (fun W (h' : SAt W p g Y) => fmodify_is n h' okY)
  have HAFT := Lib.hid (fun W (h' : SAt W p g (Y.modify n)) => cafter_is h' okZ)
  have HH := Lib.hid h
  have HOKS := Lib.hid (And.intro okY (And.intro okZ (goTo_after okZ)))
  rw [hE]
  have b0 := h.st.cell 0 (v := .pointer (some ⟨p, 0, none⟩)) rfl
  have zb := h.st.lt
  clear h hE hY hwf ok hf hst hO hn okY okZ
  have hnot : ∀ (x : Bool) (w : World), (Op.unary .not (.bool x)).run Tryz.prog w = .ok (.bool (!x)) w := fun _ _ => rfl
  go_enter Tryz.func200, Tryz.ntmps200
  go_wp2_with fail
  refine (HCUR.out _ HH.out.sp).mono ?_
  rintro e w0 ⟨rfl, rfl⟩
  go_wp2_with fail
  refine (HOF.out _ HH.out.sp).mono ?_
  rintro e w1 ⟨rfl, hu1⟩
  have b1 := ((hu1.at_ bb zb).1 0).trans b0
  have z1 : bb < w1.heap.size := by have := hu1.size; omega
  have H1 := Lib.hid (HH.out.up hu1)
  have HU1 := Lib.hid hu1
  clear hu1
  go_wp2_with fail
  refine (HOP.out _ (H1.out.sp.up ((Up.refl w1).alloc _))).mono ?_
  rintro e w2 ⟨rfl, hu2⟩
  have n1 := ((hu2.at_ w1.heap.size (by simp)).1 1).trans (by simp [go_sem] : _ = some (.bool false))
  have H2 := Lib.hid (H1.out.up (((Up.refl w1).alloc _).trans hu2))
  have b3 := H2.out.st.cell 3 (v := .bool false) rfl
  have b2 := H2.out.st.cell 0 (v := .pointer (some ⟨p, 0, none⟩)) rfl
  have z2 := H2.out.st.lt
  have z21 : w1.heap.size < w2.heap.size := by have := hu2.size; simp at this; omega
  have HU2 := Lib.hid (HU1.out.trans (((Up.refl w1).alloc _).trans hu2))
  clear hu2 b1 b0
  go_wp2_with fail
  refine (HAT.out _ H2.out.sp).mono ?_
  rintro e w3 ⟨rfl, hu3⟩
  have b4 := ((hu3.at_ bb z2).1 0).trans b2
  have H3 := Lib.hid (H2.out.up hu3)
  have z3 := H3.out.st.lt
  have HU3 := Lib.hid (HU2.out.trans hu3)
  clear hu3 b2 b3 n1
  go_wp2_with fail
  have hu4 : Up w3 (w3.alloc (.cells #[.int .u8 c, .bool d.at_, .int .u8 d.fa, .int .u8 d.hi, .int .u8 d.co, .int .u8 0] 99)) := (Up.refl w3).alloc _
  have L0 : (w3.alloc (.cells #[.int .u8 c, .bool d.at_, .int .u8 d.fa, .int .u8 d.hi, .int .u8 d.co, .int .u8 0] 99)).cell? ⟨w3.heap.size, 0, none⟩ = some (.int .u8 c) := by simp [go_sem]
  have L1 : (w3.alloc (.cells #[.int .u8 c, .bool d.at_, .int .u8 d.fa, .int .u8 d.hi, .int .u8 d.co, .int .u8 0] 99)).cell? ⟨w3.heap.size, 1, none⟩ = some (.bool d.at_) := by simp [go_sem]
  have L2 : (w3.alloc (.cells #[.int .u8 c, .bool d.at_, .int .u8 d.fa, .int .u8 d.hi, .int .u8 d.co, .int .u8 0] 99)).cell? ⟨w3.heap.size, 2, none⟩ = some (.int .u8 d.fa) := by simp [go_sem]
  have L3 : (w3.alloc (.cells #[.int .u8 c, .bool d.at_, .int .u8 d.fa, .int .u8 d.hi, .int .u8 d.co, .int .u8 0] 99)).cell? ⟨w3.heap.size, 3, none⟩ = some (.int .u8 d.hi) := by simp [go_sem]
  have L4 : (w3.alloc (.cells #[.int .u8 c, .bool d.at_, .int .u8 d.fa, .int .u8 d.hi, .int .u8 d.co, .int .u8 0] 99)).cell? ⟨w3.heap.size, 4, none⟩ = some (.int .u8 d.co) := by simp [go_sem]
  have L5 : (w3.alloc (.cells #[.int .u8 c, .bool d.at_, .int .u8 d.fa, .int .u8 d.hi, .int .u8 d.co, .int .u8 0] 99)).cell? ⟨w3.heap.size, 5, none⟩ = some (.int .u8 0) := by simp [go_sem]
  have LZ : w3.heap.size < (w3.alloc (.cells #[.int .u8 c, .bool d.at_, .int .u8 d.fa, .int .u8 d.hi, .int .u8 d.co, .int .u8 0] 99)).heap.size := by simp
  generalize w3.alloc (.cells #[.int .u8 c, .bool d.at_, .int .u8 d.fa, .int .u8 d.hi, .int .u8 d.co, .int .u8 0] 99) = W4 at *
  obtain ⟨q, hq⟩ : ∃ q, w3.heap.size = q := ⟨_, rfl⟩
  rw [hq] at L0 L1 L2 L3 L4 L5 LZ
  have H4 := Lib.hid (H3.out.up hu4)
  have HU4 := Lib.hid (HU3.out.trans hu4)
  have b5 := H4.out.st.cell 0 (v := .pointer (some ⟨p, 0, none⟩)) rfl
  have zb4 := H4.out.st.lt
  have HQ := Lib.hid (And.intro (show p < q from hq ▸ H3.out.sp.lt) (show g < q from hq ▸ H3.out.sp.cells.2.1))
  clear hu4 b4
  rw [hq]
  clear hq
  go_region_held_law (fun w' => w'.cell? ⟨bb, 0, none⟩ = some (.pointer (some ⟨p, 0, none⟩)) ∧ w'.cell? ⟨q, 0, none⟩ = some (.int .u8 c) ∧ w'.cell? ⟨q, 1, none⟩ = some (.bool d.at_) ∧ w'.cell? ⟨q, 2, none⟩ = some (.int .u8 d.fa) ∧ w'.cell? ⟨q, 3, none⟩ = some (.int .u8 d.hi) ∧ w'.cell? ⟨q, 4, none⟩ = some (.int .u8 d.co) ∧ w'.cell? ⟨q, 5, none⟩ = some (.int .u8 0)) (first | exact ⟨b5, L0, L1, L2, L3, L4, L5⟩ | exact ⟨s0, s1, s2, s3, s4, s5, s6⟩ | go_keep) ((go_simp; go_at_call 242; refine (HSET.out _ (H4.out.sp.up (by (repeat (first | with_reducible exact Up.refl _ | with_reducible refine Up.alloc ?_ _ | with_reducible refine Up.drew ?_ | with_reducible refine Up.drewN ?_ _ | with_reducible refine Up.setCell ?_ (by (try simp) <;> omega) _ | with_reducible assumption | with_reducible refine Up.trans ?_ (by assumption)))))).mono ?_; rintro e w5 ⟨rfl, hs5, hk5⟩; obtain ⟨kc, -⟩ := hk5.at_ bb (show bb < W4.heap.size from zb4) (fun e => e.elim H4.out.n1 H4.out.n2); obtain ⟨kx, -⟩ := hk5.at_ q (show q < W4.heap.size from LZ) (fun e => e.elim (fun e => (by have := HQ.out.1; omega)) (fun e => (by have := HQ.out.2; omega))); have s0 := (kc 0).trans b5; have s1 := (kx 0).trans L0; have s2 := (kx 1).trans L1; have s3 := (kx 2).trans L2; have s4 := (kx 3).trans L3; have s5 := (kx 4).trans L4; have s6 := (kx 5).trans L5; have HS5 := Lib.hid hs5; have HK5 := Lib.hid hk5; clear hs5 hk5 kc kx))
  have H5 := Lib.hid ((H4.out.up (by (repeat (first | with_reducible exact Up.refl _ | with_reducible refine Up.alloc ?_ _ | with_reducible refine Up.drew ?_ | with_reducible refine Up.drewN ?_ _ | with_reducible refine Up.setCell ?_ (by (try simp) <;> omega) _ | with_reducible assumption | with_reducible refine Up.trans ?_ (by assumption))))).two HK5.out HS5.out HOKS.out.1)
  have HK5' := Lib.hid (((Keep.of_up HU4.out).trans (Keep.of_up (by (repeat (first | with_reducible exact Up.refl _ | with_reducible refine Up.alloc ?_ _ | with_reducible refine Up.drew ?_ | with_reducible refine Up.drewN ?_ _ | with_reducible refine Up.setCell ?_ (by (try simp) <;> omega) _ | with_reducible assumption | with_reducible refine Up.trans ?_ (by assumption)))))).trans HK5.out : Keep (two p g) _ w5)
  have b6 := H5.out.st.cell 0 (v := .pointer (some ⟨p, 0, none⟩)) rfl
  have z5 := H5.out.st.lt
  clear L0 L1 L2 L3 L4 L5 LZ b5 s0 s1 s2 s3 s4 s5 s6 zb4
  go_wp2_with fail
  refine (HMOD.out _ H5.out.sp).mono ?_
  rintro e w6 ⟨rfl, hs6, hk6⟩
  have H6 := Lib.hid (H5.out.two hk6 hs6 HOKS.out.2.1)
  have HK6 := Lib.hid (HK5'.out.trans hk6)
  have b7 := H6.out.st.cell 0 (v := .pointer (some ⟨p, 0, none⟩)) rfl
  have z6 := H6.out.st.lt
  clear hs6 hk6
  go_wp2_with fail
  refine (HAFT.out _ H6.out.sp).mono ?_
  rintro e w7 ⟨rfl, hs7, hk7⟩
  have H7 := Lib.hid (H6.out.two hk7 hs7 HOKS.out.2.2)
  have HK7 := Lib.hid (HK6.out.trans hk7)
  clear hs7 hk7
  go_wp2_with fail
  go_ret
  exact ⟨rfl, H7.out, HK7.out⟩
end Go.Proofs.YtamfjgioajmnpaaGreatDoor
namespace Go.Proofs.YtamfjgioajmnpaaGreatDoor
open Go.RowKit
set_option linter.unusedVariables false
set_option linter.unusedSimpArgs false

section
variable {w w' : World} {bb p g pg : Nat} {Fp G E : Nat → Prop} {X Y : Spc} {k lock : Int} {ins : Bool} {aid : Int}
/-- the page is worked on -/
theorem KbC.page (h : KbC w bb p g pg Fp X k lock ins aid) (hk : Near pg w w') (hp : PgA w' pg (Gr Fp w w') k) : KbC w' bb p g pg (Gr Fp w w') X k lock ins aid := by
  have f := h.pa.fb
  have e1 : ¬ bb = pg := fun e => h.n3 (e ▸ f)
  have e2 : ¬ p = pg := fun e => h.n4 (e ▸ f)
  have e3 : ¬ g = pg := fun e => h.n5 (e ▸ f)
  have hn : ∀ j, ¬ Fp j → j < w.heap.size → ¬ Gr Fp w w' j := fun j hj hl hg => by
    rcases hg with hg | hg
    · exact hj hg
    · omega
  exact ⟨h.st.keep hk e1, h.sp.held hk e2 e3, h.ok, hp, h.n1, h.n2, hn _ h.n3 h.st.lt, hn _ h.n4 h.sp.lt, hn _ h.n5 h.sp.cells.2.1⟩
theorem KbC.wid (h : KbC w bb p g pg Fp X k lock ins aid) (hG : ∀ i, Fp i → G i) (hl : ∀ i, G i → i < w.heap.size) (h1 : ¬ G bb) (h2 : ¬ G p) (h3 : ¬ G g) : KbC w bb p g pg G X k lock ins aid :=
  ⟨h.st, h.sp, h.ok, h.pa.mono hG hl, h.n1, h.n2, h1, h2, h3⟩
end
/-- a sign may be entered where the cursor is -/
structure CharOk (X : Spc) (k s c : Int) : Prop where
  wf : (Lit.int .i32 s).wf = true
  has : (codeN k s).isSome = true
  code : codeV k s = c
  data : dataN c = true
  bd : 0 ≤ c ∧ c ≤ 255
  nd : (c == 28) = false
  st : 0 ≤ X.start X.cur
  num : fN (X.at_ (X.start X.cur)).fa = false
  op : X.open_ X.cur = true
/-- a screen's two blocks and a page's -/
def three (p g pg : Nat) : Nat → Prop := fun j => j = p ∨ j = g ∨ j = pg
set_option maxRecDepth 100000 in
set_option maxHeartbeats 1600000 in
theorem kchar_is {w : World} {bb p g pg : Nat} {Fp : Nat → Prop} {X : Spc} {k lock aid s c : Int} (h : KbC w bb p g pg Fp X k lock false aid) (hk : isPage k = true) (hc : CharOk X k s c) :
    Calls Tryz.prog 198 #[.pointer (some ⟨bb, 0, none⟩), .int .i32 s] w fun e w' => e = .returned (.int .i64 0) ∧ KbC w' bb p g pg (Gr Fp w w') (X.enter c) k lock false aid ∧ Keep (three p g pg) w w' := by
  have b1 := h.st.cell 1 (v := .pointer (some ⟨pg, 0, none⟩)) rfl
  have zb := h.st.lt
  have HC := Lib.hid (pgcode_is pg k hk s hc.wf w h.pa)
  have HE := Lib.hid (fun W Fq (h' : KbC W bb p g pg Fq X k lock false aid) => kenter_is h' hc.bd hc.nd hc.st rfl hc.num hc.op)
  have HD := Lib.hid (fun W => (hc.data ▸ data_is c W : Calls Tryz.prog 199 #[.int .u8 c] W fun e w' => e = .returned (.bool true) ∧ W = w'))
  have H := Lib.hid h
  have hnot : ∀ (x : Bool) (w : World), (Op.unary .not (.bool x)).run Tryz.prog w = .ok (.bool (!x)) w := fun _ _ => rfl
  rw [hc.has, hc.code] at HC
  clear h hc
  go_enter Tryz.func198, Tryz.ntmps198
  go_wp2_with fail
  refine HC.out.mono ?_
  rintro e w1 ⟨rfl, hp1, hn1⟩
  have H1 := Lib.hid (H.out.page hn1 hp1)
  have HN1 := Lib.hid hn1
  clear hn1 hp1
  go_wp2_with fail
  refine (HD.out _).mono ?_
  rintro e w2 ⟨rfl, rfl⟩
  go_wp2_with fail
  refine (HE.out _ _ H1.out).mono ?_
  rintro e w3 ⟨rfl, hb3, hk3⟩
  have HB3 := Lib.hid hb3
  have HK3 := Lib.hid hk3
  clear hb3 hk3
  go_wp2_with fail
  go_ret
  have z1 := HN1.out.size
  have z3 := HK3.out.size
  have hn : ∀ j, ¬ Fp j → j < w.heap.size → ¬ Gr Fp w w3 j := fun j hj hl hg => by
    rcases hg with hg | hg
    · exact hj hg
    · omega
  refine ⟨rfl, HB3.out.wid (fun i hi => ?_) (Gr.lt H.out.pa.lt (by omega)) (hn _ H.out.n3 H.out.st.lt) (hn _ H.out.n4 H.out.sp.lt) (hn _ H.out.n5 H.out.sp.cells.2.1), (HN1.out.mono (fun j hj => .inr (.inr hj))).trans (HK3.out.mono (fun j hj => hj.elim .inl (fun e => .inr (.inl e))))⟩
  rcases hi with hi | hi
  · exact .inl hi
  · exact .inr ⟨hi.1, by omega⟩
set_option maxRecDepth 100000 in
theorem aid_char (s n : Int) (w : World) : Calls Tryz.prog 149 #[.agg #[.int .i64 1, .int .i32 s, .int .i64 n]] w fun e w' => e = .returned (.tuple #[.int .u8 0, .bool false]) ∧ Up w w' := by
  go_enter Tryz.func149, Tryz.ntmps149
  go_wp2_with fail
  go_ret2
  exact ⟨rfl, (Up.refl w).alloc _⟩
set_option maxRecDepth 100000 in
theorem aid_enter (s n : Int) (w : World) : Calls Tryz.prog 149 #[.agg #[.int .i64 19, .int .i32 s, .int .i64 n]] w fun e w' => e = .returned (.tuple #[.int .u8 125, .bool true]) ∧ Up w w' := by
  go_enter Tryz.func149, Tryz.ntmps149
  go_wp2_with fail
  go_ret2
  exact ⟨rfl, (Up.refl w).alloc _⟩
theorem move_no (v : Value) (w : World) : Calls Tryz.prog 153 #[v, .int .i64 1] w fun e w' => e = .returned (.bool false) ∧ w = w' := by
  go_enter Tryz.func153, Tryz.ntmps153
  go_wp2_with fail
  go_ret
  exact ⟨rfl, rfl⟩
end Go.Proofs.YtamfjgioajmnpaaGreatDoor
namespace Go.Proofs.YtamfjgioajmnpaaGreatDoor
open Go.RowKit
set_option linter.unusedVariables false
set_option linter.unusedSimpArgs false

set_option maxRecDepth 100000 in
set_option maxHeartbeats 1600000 in
theorem kentered_char {w : World} {bb p g pg : Nat} {Fp : Nat → Prop} {X : Spc} {k lock aid s c n : Int} (h : KbC w bb p g pg Fp X k lock false aid) (hk : isPage k = true) (hc : CharOk X k s c) :
    Calls Tryz.prog 154 #[.pointer (some ⟨bb, 0, none⟩), .agg #[.int .i64 1, .int .i32 s, .int .i64 n]] w fun e w' => e = .returned (.int .i64 0) ∧ KbC w' bb p g pg (Gr Fp w w') (X.enter c) k lock false aid ∧ Keep (three p g pg) w w' := by
  have b0 := h.st.cell 0 (v := .pointer (some ⟨p, 0, none⟩)) rfl
  have zb := h.st.lt
  have hu0 : Up w (w.alloc (.cells #[.int .i64 1, .int .i32 s, .int .i64 n] 44)) := (Up.refl w).alloc _
  have HCU := Lib.hid (scur_is (h.up hu0).sp)
  have HCH := Lib.hid (kchar_is (h.up hu0) hk hc)
  have HL := Lib.hid h
  have HU0 := Lib.hid hu0
  clear h hc hu0
  go_enter Tryz.func154, Tryz.ntmps154
  go_wp2_with fail
  refine HCU.out.mono ?_
  rintro e w0 ⟨rfl, rfl⟩
  go_wp2_with fail
  refine HCH.out.mono ?_
  rintro e w1 ⟨rfl, hb1, hk1⟩
  have HB1 := Lib.hid hb1
  have HK1 := Lib.hid hk1
  clear hb1 hk1
  go_wp2_with fail
  go_ret
  have z1 := HK1.out.size
  have hn : ∀ j, ¬ Fp j → j < w.heap.size → ¬ Gr Fp w w1 j := fun j hj hl hg => by
    rcases hg with hg | hg
    · exact hj hg
    · omega
  have hz0 : w.heap.size ≤ w1.heap.size := Nat.le_trans HU0.out.size z1
  refine ⟨rfl, HB1.out.wid (fun i hi => ?_) (Gr.lt HL.out.pa.lt hz0) (hn _ HL.out.n3 HL.out.st.lt) (hn _ HL.out.n4 HL.out.sp.lt) (hn _ HL.out.n5 HL.out.sp.cells.2.1), (Keep.of_up HU0.out).trans HK1.out⟩
  rcases hi with hi | hi
  · exact .inl hi
  · exact .inr ⟨Nat.le_trans HU0.out.size hi.1, hi.2⟩
set_option maxRecDepth 100000 in
set_option maxHeartbeats 1600000 in
theorem kpress_char {w : World} {bb p g pg : Nat} {Fp : Nat → Prop} {X : Spc} {k aid s c n : Int} (h : KbC w bb p g pg Fp X k 0 false aid) (hk : isPage k = true) (hc : CharOk X k s c) :
    Calls Tryz.prog 108 #[.pointer (some ⟨bb, 0, none⟩), .agg #[.int .i64 1, .int .i32 s, .int .i64 n]] w fun e w' => e = .returned (.tuple #[.bool false, .int .i64 0]) ∧ KbC w' bb p g pg (Gr Fp w w') (X.enter c) k 0 false aid ∧ Keep (three p g pg) w w' := by
  have HL := Lib.hid h
  have HCH := Lib.hid (fun W (h' : KbC W bb p g pg Fp X k 0 false aid) => kentered_char (n := n) h' hk hc)
  have zb := h.st.lt
  have hnot : ∀ (x : Bool) (w : World), (Op.unary .not (.bool x)).run Tryz.prog w = .ok (.bool (!x)) w := fun _ _ => rfl
  clear h hc
  go_enter Tryz.func108, Tryz.ntmps108
  go_wp2_with fail
  refine (aid_char s n _).mono ?_
  rintro e w1 ⟨rfl, hu1⟩
  have hu : Up w w1 := ((Up.refl w).alloc _).trans hu1
  have hb := hu1.at_ w.heap.size (by simp)
  have k0 := (hb.1 0).trans (by simp [go_sem] : _ = some (.int .i64 1))
  have k1 := (hb.1 1).trans (by simp [go_sem] : _ = some (.int .i32 s))
  have k2 := (hb.1 2).trans (by simp [go_sem] : _ = some (.int .i64 n))
  have H1 := Lib.hid (HL.out.up hu)
  have HU := Lib.hid hu
  have b2 := H1.out.st.cell 2 (v := .int .i64 0) rfl
  have z1 := H1.out.st.lt
  have zw : w.heap.size < w1.heap.size := by have := hu1.size; simp at this; omega
  clear hu hu1 hb
  go_wp2_with (first
    | (go_at_call 153; refine (move_no _ _).mono ?_; rintro e w2 ⟨rfl, rfl⟩)
    | (go_at_call 154; refine (HCH.out _ H1.out).mono ?_; rintro e w2 ⟨rfl, hb2, hk2⟩; have HB2 := Lib.hid hb2; have HK2 := Lib.hid hk2; clear hb2 hk2))
  go_ret2
  have z2 := HK2.out.size
  have hn : ∀ j, ¬ Fp j → j < w.heap.size → ¬ Gr Fp w w2 j := fun j hj hl hg => by
    rcases hg with hg | hg
    · exact hj hg
    · omega
  refine ⟨rfl, HB2.out.wid (fun i hi => ?_) (Gr.lt HL.out.pa.lt (Nat.le_trans HU.out.size z2)) (hn _ HL.out.n3 HL.out.st.lt) (hn _ HL.out.n4 HL.out.sp.lt) (hn _ HL.out.n5 HL.out.sp.cells.2.1), (Keep.of_up HU.out).trans HK2.out⟩
  rcases hi with hi | hi
  · exact .inl hi
  · exact .inr ⟨Nat.le_trans HU.out.size hi.1, hi.2⟩
set_option maxRecDepth 100000 in
theorem ksend_is {w : World} {bb p pg : Nat} {lock aid a : Int} {ins : Bool} (h : St w 260 bb (kbVals p pg lock ins aid)) :
    Calls Tryz.prog 152 #[.pointer (some ⟨bb, 0, none⟩), .int .u8 a] w fun e w' => e = .returned (.tuple #[]) ∧ St w' 260 bb (kbVals p pg 1 false a) ∧ Keep (fun j => j = bb) w w' := by
  have b2 := h.cell 2 (v := .int .i64 lock) rfl
  have b3 := h.cell 3 (v := .bool ins) rfl
  have b4 := h.cell 4 (v := .int .u8 aid) rfl
  have f2 := h.free 2
  have f3 := h.free 3
  have f4 := h.free 4
  have zb := h.lt
  have H := Lib.hid h
  clear h
  go_enter Tryz.func152, Tryz.ntmps152
  go_wp2_with fail
  go_end0
  refine ⟨rfl, ((H.out.set 4 (.int .u8 a)).set 2 (.int .i64 1)).set 3 (.bool false), (((Keep.refl (fun j => j = bb) w).setCell (p := ⟨bb, 4, none⟩) (.inl rfl) _).setCell (p := ⟨bb, 2, none⟩) (.inl rfl) _).setCell (p := ⟨bb, 3, none⟩) (.inl rfl) _⟩
set_option maxRecDepth 100000 in
theorem krestore_is {w : World} {bb p pg : Nat} {lock aid : Int} {ins : Bool} (h : St w 260 bb (kbVals p pg lock ins aid)) :
    Calls Tryz.prog 231 #[.pointer (some ⟨bb, 0, none⟩)] w fun e w' => e = .returned (.tuple #[]) ∧ St w' 260 bb (kbVals p pg 0 ins 96) ∧ Keep (fun j => j = bb) w w' := by
  have b2 := h.cell 2 (v := .int .i64 lock) rfl
  have b4 := h.cell 4 (v := .int .u8 aid) rfl
  have f2 := h.free 2
  have f4 := h.free 4
  have zb := h.lt
  have H := Lib.hid h
  clear h
  go_enter Tryz.func231, Tryz.ntmps231
  go_wp2_with fail
  go_end0
  exact ⟨rfl, (H.out.set 2 (.int .i64 0)).set 4 (.int .u8 96), ((Keep.refl (fun j => j = bb) w).setCell (p := ⟨bb, 2, none⟩) (.inl rfl) _).setCell (p := ⟨bb, 4, none⟩) (.inl rfl) _⟩
theorem kaid_is {w : World} {bb p pg : Nat} {lock aid : Int} {ins : Bool} (h : St w 260 bb (kbVals p pg lock ins aid)) :
    Calls Tryz.prog 110 #[.pointer (some ⟨bb, 0, none⟩)] w fun e w' => e = .returned (.int .u8 aid) ∧ w = w' := by
  have b4 := h.cell 4 (v := .int .u8 aid) rfl
  have zb := h.lt
  clear h
  go_enter Tryz.func110, Tryz.ntmps110
  go_wp2_with fail
  go_ret
  exact ⟨rfl, rfl⟩
theorem knew_is (p pg : Nat) (w : World) :
    Calls Tryz.prog 97 #[.pointer (some ⟨p, 0, none⟩), .pointer (some ⟨pg, 0, none⟩)] w fun e w' => e = .returned (.tuple #[.pointer (some ⟨w.heap.size, 0, none⟩), .int .i64 0]) ∧ St w' 260 w.heap.size (kbVals p pg 0 false 96) ∧ Up w w' := by
  go_enter Tryz.func97, Tryz.ntmps97
  go_wp2_with fail
  go_ret2
  exact ⟨rfl, St.new w _ _ rfl, (Up.refl w).alloc _⟩
set_option maxRecDepth 100000 in
set_option maxHeartbeats 1600000 in
theorem kpress_enter {w : World} {bb p pg : Nat} {aid s n : Int} {ins : Bool} (h : St w 260 bb (kbVals p pg 0 ins aid)) :
    Calls Tryz.prog 108 #[.pointer (some ⟨bb, 0, none⟩), .agg #[.int .i64 19, .int .i32 s, .int .i64 n]] w fun e w' => e = .returned (.tuple #[.bool true, .int .i64 0]) ∧ St w' 260 bb (kbVals p pg 1 false 125) ∧ Keep (fun j => j = bb) w w' := by
  have HL := Lib.hid h
  have HSE := Lib.hid (fun W (h' : St W 260 bb (kbVals p pg 0 ins aid)) => ksend_is (a := 125) h')
  have zb := h.lt
  have hnot : ∀ (x : Bool) (w : World), (Op.unary .not (.bool x)).run Tryz.prog w = .ok (.bool (!x)) w := fun _ _ => rfl
  clear h
  go_enter Tryz.func108, Tryz.ntmps108
  go_wp2_with fail
  refine (aid_enter s n _).mono ?_
  rintro e w1 ⟨rfl, hu1⟩
  have hu : Up w w1 := ((Up.refl w).alloc _).trans hu1
  have hb := hu1.at_ w.heap.size (by simp)
  have k0 := (hb.1 0).trans (by simp [go_sem] : _ = some (.int .i64 19))
  have k1 := (hb.1 1).trans (by simp [go_sem] : _ = some (.int .i32 s))
  have k2 := (hb.1 2).trans (by simp [go_sem] : _ = some (.int .i64 n))
  have H1 := Lib.hid (HL.out.up hu)
  have HU := Lib.hid hu
  have b2 := H1.out.cell 2 (v := .int .i64 0) rfl
  have z1 := H1.out.lt
  have zw : w.heap.size < w1.heap.size := by have := hu1.size; simp at this; omega
  clear hu hu1 hb
  go_wp2_with (go_at_call 152; refine (HSE.out _ H1.out).mono ?_; rintro e w2 ⟨rfl, hb2, hk2⟩; have HB2 := Lib.hid hb2; have HK2 := Lib.hid hk2; clear hb2 hk2)
  go_ret2
  exact ⟨rfl, HB2.out, (Keep.of_up HU.out).trans HK2.out⟩
end Go.Proofs.YtamfjgioajmnpaaGreatDoor
namespace Go.Proofs.YtamfjgioajmnpaaGreatDoor
open Go.RowKit
set_option linter.unusedVariables false
set_option linter.unusedSimpArgs false

/-- a store into a row of one-cell elements -/
theorem Row.setAt {e : TypeId} {w : World} {F : Nat → Prop} {g n c j : Nat} {xs : List Value} (h : Row e 1 w F (some ⟨g, 0, none⟩) n c xs) (hj : j < n) (v : Value) : Row e 1 (w.setCell ⟨g, j, none⟩ v) F (some ⟨g, 0, none⟩) n c (xs.set j v) := by
  have hl := h.len
  refine ⟨⟨by simp [hl], ?_⟩, h.le, h.mx, h.in_⟩
  rcases h.own.2 with ⟨e1, e2⟩ | ⟨g', cap, cur, e1, e2, e3, e4, e5, e6, e7⟩
  · omega
  · injection e1 with e1 e8 e9
    injection e1 with e1
    injection e1 with e1 _ _
    subst e1; subst e9
    refine .inr ⟨g, c, cur.setIfInBounds j v, rfl, e2, ?_, e4, e5, by simpa using e6, ?_⟩
    · unfold World.setCell
      simp only
      rw [Array.getElem?_modify, if_pos rfl, e3]
      simp
    · rw [Array.toList_setIfInBounds, List.take_set, e7]
theorem Row.cellAt {e : TypeId} {w : World} {F : Nat → Prop} {g n c j : Nat} {xs : List Value} {v : Value} (h : Row e 1 w F (some ⟨g, 0, none⟩) n c xs) (hv : xs[j]? = some v) : w.cell? ⟨g, j, none⟩ = some v ∧ w.frozen? ⟨g, j, none⟩ = false := by
  have hj : j < n := by have := (List.getElem?_eq_some_iff.1 hv).1; have := h.len; omega
  obtain ⟨b, off, e1, hb, hc⟩ := h.reads.2 (by omega)
  injection e1 with e1
  injection e1 with e1 e2 _
  subst e1; subst e2
  refine ⟨by have := hc j v hv; rwa [Nat.zero_add] at this, ?_⟩
  rcases h.own.2 with ⟨e1, e2⟩ | ⟨g', cap, cur, e1, _, e3, _⟩
  · omega
  · injection e1 with e1 _ _
    injection e1 with e1
    injection e1 with e1 _ _
    subst e1
    unfold World.frozen?
    simp only
    rw [e3]
    simp
def ltS (a b : ByteArray) : Bool := Op.bytesLess a.toList b.toList
def strs (L : List ByteArray) : List Value := L.map Value.string
def eS : ByteArray := ⟨#[]⟩
def swp (L : List ByteArray) (j : Nat) : List ByteArray := (L.set (j + 1) (L.getD j eS)).set j (L.getD (j + 1) eS)
def bub (L : List ByteArray) : Nat → List ByteArray
  | 0 => L
  | j + 1 => if ltS (L.getD (j + 1) eS) (L.getD j eS) then bub (swp L j) j else L
def insN (L : List ByteArray) : Nat → List ByteArray
  | 0 => L
  | i + 1 => bub (insN L i) (i + 1)
theorem swp_len (L : List ByteArray) (j : Nat) : (swp L j).length = L.length := by simp [swp]
theorem bub_len : ∀ (j : Nat) (L : List ByteArray), (bub L j).length = L.length
  | 0, L => rfl
  | j + 1, L => by
    unfold bub
    split
    · rw [bub_len j, swp_len]
    · rfl
theorem insN_len (L : List ByteArray) : ∀ i, (insN L i).length = L.length
  | 0 => rfl
  | i + 1 => by rw [insN, bub_len, insN_len L i]
theorem isNaN_is (s : ByteArray) (w : World) : Calls Tryz.prog 367 #[.string s] w fun e w' => e = .returned (.bool false) ∧ w = w' := by
  go_enter Tryz.func367, Tryz.ntmps367
  go_wp2
  go_ret
  exact ⟨by simp, rfl⟩
theorem less_is (a b : ByteArray) {t : Bool} (ht : ltS a b = t) (w : World) : Calls Tryz.prog 322 #[.string a, .string b] w fun e w' => e = .returned (.bool t) ∧ w = w' := by
  have hb : Op.bytesLess a.toList b.toList = t := ht
  clear ht
  go_enter Tryz.func322, Tryz.ntmps322
  go_wp2_with (go_at_call 367; refine (isNaN_is _ _).mono ?_; rintro e w' ⟨rfl, rfl⟩)
  go_ret
  exact ⟨by simp [hb], rfl⟩
theorem str_at {L : List ByteArray} {j : Nat} (h : j < L.length) : (strs L)[j]? = some (.string (L.getD j eS)) := by
  unfold strs
  rw [List.getElem?_map, List.getD, List.getElem?_eq_getElem h]
  rfl
set_option maxRecDepth 100000 in
set_option maxHeartbeats 6400000 in
theorem insort_is {w : World} {F : Nat → Prop} {g n c : Nat} {L : List ByteArray} (h : Row 9 1 w F (some ⟨g, 0, none⟩) n c (strs L)) (hn : n ≤ 1000) (h0 : 1 ≤ n) :
    Calls Tryz.prog 316 #[.slice (some ⟨g, 0, none⟩) n c, .int .i64 0, .int .i64 (n : Int)] w fun e w' => e = .returned (.tuple #[]) ∧ Row 9 1 w' F (some ⟨g, 0, none⟩) n c (strs (insN L (n - 1))) ∧ Keep (fun k => k = g) w w' := by
  have H := Lib.hid h
  have hll : L.length = n := by have := h.len; simpa [strs] using this
  have HL := Lib.hid hll
  have hni : (n : Int) ≤ 1000 := by omega
  clear h hll
  go_enter Tryz.func316, Tryz.ntmps316
  go_wp2_with fail
  go_loopw [6] (fun q wr => ∃ i : Nat, q = .int .i64 ((i + 1 : Nat) : Int) ∧ i + 1 ≤ n ∧ Row 9 1 wr F (some ⟨g, 0, none⟩) n c (strs (insN L i)) ∧ Keep (fun k => k = g) w wr) (fun q _ => n - (intOf q).toNat)
  case atStart => exact ⟨0, rfl, h0, H.out, Keep.refl _ _⟩
  case round =>
    obtain ⟨i, rfl, hi, hr, hk⟩ := hrel
    have HR := Lib.hid hr
    have HK := Lib.hid hk
    clear hr hk
    by_cases hlt : i + 1 < n
    · have hlt' : ((i + 1 : Nat) : Int) < (n : Int) := by omega
      go_wp2_with fail
      go_loopw [7] (fun q wx => ∃ (j : Nat) (M : List ByteArray), q = .int .i64 (j : Int) ∧ j ≤ i + 1 ∧ M.length = n ∧ bub M j = insN L (i + 1) ∧ Row 9 1 wx F (some ⟨g, 0, none⟩) n c (strs M) ∧ Keep (fun k => k = g) w wx) (fun q _ => (intOf q).toNat)
      case atStart => exact ⟨i + 1, insN L i, rfl, Nat.le_refl _, by rw [insN_len]; exact HL.out, rfl, HR.out, HK.out⟩
      case round =>
        obtain ⟨j, M, rfl, hj, hM, hb, hr, hk⟩ := hrel
        have HR2 := Lib.hid hr
        have HK2 := Lib.hid hk
        have HB2 := Lib.hid hb
        have HM2 := Lib.hid hM
        clear hr hk hb hM
        have hjn : (j : Int) < (n : Int) := by omega
        rcases Nat.eq_zero_or_pos j with hj0 | hj0
        · subst hj0
          have hd : decide ((0 : Int) < ((0 : Nat) : Int)) = false := by simp
          go_wp2_with fail
          go_quiet (fail)
          go_wp2_with fail
          have hx : M = insN L (i + 1) := HB2.out
          refine ⟨⟨i + 1, by go_num, by omega, ?_, HK2.out.drewN _⟩, ?_⟩
          · rw [← hx]
            exact HR2.out.up ((Up.refl _).drewN _)
          · simp only [intOf]
            omega
        · have hd : (0 : Int) < (j : Int) := by omega
          have hj1 : IntKind.i64.wrap ((j : Int) - 1) = ((j - 1 : Nat) : Int) := by rw [IntWalk.i64_in _ (by omega)]; omega
          obtain ⟨c1, e1⟩ := HR2.out.cellAt (str_at (L := M) (j := j) (by rw [HM2.out]; omega))
          obtain ⟨c2, e2⟩ := HR2.out.cellAt (str_at (L := M) (j := j - 1) (by rw [HM2.out]; omega))
          have hjj : ¬ j = j - 1 := by omega
          have hjk : ¬ j - 1 = j := by omega
          have hj2 : ((j - 1 : Nat) : Int) < (n : Int) := by omega
          have hj3 : (0 : Int) ≤ ((j - 1 : Nat) : Int) := by omega
          obtain ⟨x, hx⟩ : ∃ x, M.getD j eS = x := ⟨_, rfl⟩
          obtain ⟨y, hy⟩ : ∃ y, M.getD (j - 1) eS = y := ⟨_, rfl⟩
          rw [hx] at c1
          rw [hy] at c2
          have HX := Lib.hid hx
          have HY := Lib.hid hy
          clear hx hy
          rcases hlt2 : ltS x y with _ | _
          · have HLT := Lib.hid hlt2
            clear hlt2
            go_wp2_with fail
            go_quiet ((go_at_call 322; exact Calls.quiet_of_same ((less_is _ _ HLT.out _).mono (fun _ _ h => ⟨h.1, h.2.symm⟩))))
            go_wp2_with fail
            have hx : M = insN L (i + 1) := by
              rw [← HB2.out, show j = (j - 1) + 1 by omega, bub, show j - 1 + 1 = j by omega, HX.out, HY.out, HLT.out]
              rfl
            refine ⟨⟨i + 1, by go_num, by omega, ?_, HK2.out.drewN _⟩, ?_⟩
            · rw [← hx]
              exact HR2.out.up ((Up.refl _).drewN _)
            · simp only [intOf]
              omega
          · have HLT := Lib.hid hlt2
            clear hlt2
            go_wp2_with fail
            go_quiet ((go_at_call 322; exact Calls.quiet_of_same ((less_is _ _ HLT.out _).mono (fun _ _ h => ⟨h.1, h.2.symm⟩))))
            go_wp2_with fail
            go_region
            all_goals (try go_wp2_with fail)
            have hsw : swp M (j - 1) = (M.set j y).set (j - 1) x := by
              unfold swp
              rw [show j - 1 + 1 = j by omega, HX.out, HY.out]
            refine ⟨⟨j - 1, swp M (j - 1), rfl, by omega, by rw [swp_len]; exact HM2.out, ?_, ?_, ?_⟩, ?_⟩
            · rw [← HB2.out, show j = (j - 1) + 1 by omega, bub, show j - 1 + 1 = j by omega, HX.out, HY.out, HLT.out]
              rfl
            · rw [hsw, show strs ((M.set j y).set (j - 1) x) = ((strs M).set j (.string y)).set (j - 1) (.string x) by simp [strs, List.map_set]]
              exact ((HR2.out.up ((Up.refl _).drewN _)).setAt (by omega) _).setAt (by omega) _
            · exact ((HK2.out.drewN _).setCell (p := ⟨g, j, none⟩) (.inl rfl) _).setCell (p := ⟨g, j - 1, none⟩) (.inl rfl) _
            · simp only [intOf]
              omega
    · have hge : ¬ ((i + 1 : Nat) : Int) < (n : Int) := by omega
      go_wp2_with fail
      go_end0
      refine ⟨rfl, ?_, HK.out⟩
      rw [show n - 1 = i by omega]
      exact HR.out
end Go.Proofs.YtamfjgioajmnpaaGreatDoor
