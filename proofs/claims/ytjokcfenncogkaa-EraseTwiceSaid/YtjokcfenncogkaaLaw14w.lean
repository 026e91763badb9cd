/-
  EraseTwice. No condition.
-/
import Derived.Test.YtjokcfenncogkaaDo4All
import Derived.Test.YtjokcfenncogkaaSa12
namespace Go.Proofs.Ytjokcfenncogkaa
open Go.RowKit Go.Shelf
set_option linter.unusedVariables false
set_option linter.unusedSimpArgs false
attribute [local go_sem] Oper.semAt_some

/-- an act of layer 14 in a block -/
structure A14At (W : World) (B : Nat) (d n t : Int) (c : Cl) : Prop where
  free : FreeAt W B
  lt : B < W.heap.size
  c0 : W.cell? ⟨B, 0, none⟩ = some (.int .u8 d)
  c1 : W.cell? ⟨B, 1, none⟩ = some (.int .i64 n)
  c2 : W.cell? ⟨B, 2, none⟩ = some (.int .i64 t)
  c3 : W.cell? ⟨B, 3, none⟩ = some (.int .u8 c.ch)
  c4 : W.cell? ⟨B, 4, none⟩ = some (.bool c.at_)
  c5 : W.cell? ⟨B, 5, none⟩ = some (.int .u8 c.fa)
  c6 : W.cell? ⟨B, 6, none⟩ = some (.int .u8 c.hi)
  c7 : W.cell? ⟨B, 7, none⟩ = some (.int .u8 c.co)
  c8 : W.cell? ⟨B, 8, none⟩ = some (.int .u8 c.se)
theorem A14At.up {W W' : World} {B : Nat} {d n t : Int} {c : Cl} (h : A14At W B d n t c) (hu : Up W W') : A14At W' B d n t c := by
  have hb := hu.at_ B h.lt
  have hz := hu.size
  exact ⟨fun o => (hb.2 o).trans (h.free o), by have := h.lt; omega, (hb.1 _).trans h.c0, (hb.1 _).trans h.c1, (hb.1 _).trans h.c2, (hb.1 _).trans h.c3, (hb.1 _).trans h.c4, (hb.1 _).trans h.c5, (hb.1 _).trans h.c6, (hb.1 _).trans h.c7, (hb.1 _).trans h.c8⟩
theorem A14At.set {W : World} {B : Nat} {d n t : Int} {c : Cl} (h : A14At W B d n t c) (d' : Int) : A14At (W.setCell ⟨B, 0, none⟩ (.int .u8 d')) B d' n t c := by
  have ho : ∀ o, o ≠ 0 → (W.setCell ⟨B, 0, none⟩ (.int .u8 d')).cell? ⟨B, o, none⟩ = W.cell? ⟨B, o, none⟩ := fun o h0 => World.cell?_setCell_other _ _ _ _ (by simp <;> omega)
  exact ⟨fun o => by simpa [go_sem] using h.free o, by simpa using h.lt, World.cell?_setCell_same (h := h.c0) .., (ho _ (by omega)).trans h.c1, (ho _ (by omega)).trans h.c2, (ho _ (by omega)).trans h.c3, (ho _ (by omega)).trans h.c4, (ho _ (by omega)).trans h.c5, (ho _ (by omega)).trans h.c6, (ho _ (by omega)).trans h.c7, (ho _ (by omega)).trans h.c8⟩
theorem A14At.held {W W' : World} {B : Nat} {d n t : Int} {c : Cl} {E : Nat → Prop} (h : A14At W B d n t c) (hk : Keep E W W') (hE : ¬ E B) : A14At W' B d n t c := by
  have hb := hk.at_ B h.lt hE
  have hz := hk.size
  exact ⟨fun o => (hb.2 o).trans (h.free o), by have := h.lt; omega, (hb.1 _).trans h.c0, (hb.1 _).trans h.c1, (hb.1 _).trans h.c2, (hb.1 _).trans h.c3, (hb.1 _).trans h.c4, (hb.1 _).trans h.c5, (hb.1 _).trans h.c6, (hb.1 _).trans h.c7, (hb.1 _).trans h.c8⟩
theorem A14At.new (w : World) (d n t : Int) (c : Cl) : A14At (w.alloc (.cells #[.int .u8 d, .int .i64 n, .int .i64 t, .int .u8 c.ch, .bool c.at_, .int .u8 c.fa, .int .u8 c.hi, .int .u8 c.co, .int .u8 c.se] 110)) w.heap.size d n t c := by
  refine ⟨fun o => by simp [go_sem], by simp, ?_, ?_, ?_, ?_, ?_, ?_, ?_, ?_, ?_⟩ <;> simp [go_sem]
theorem twice_of {W : World} {p g : Nat} {X : Spc} {d nn t : Int} {c : Cl} (ok : X.Ok) (hc : c.Wf) (hs : SAt W p g (X.do4 d nn t c)) : ∃ Z, SAt W p g Z ∧ Z.Ok ∧ Z.do4 d nn t c = Z := ⟨_, hs, do4_ok ok d nn t hc, do4_twice ok d nn t hc⟩
set_option maxRecDepth 100000 in
set_option maxHeartbeats 12800000 in
theorem law_twice (m : Int) (A : Option Addr) (n cap : Nat) (l : List ActR) (d nn t : Int) (c : Cl) (w : World) (m0 : 0 ≤ m) (m1 : m ≤ 255) (hl : l.length = n) (hn : n ≤ cap) (hc : cap ≤ maxLen) (hok : ∀ x ∈ l, x.Ok w w.heap.size) (hr : Reads w w.heap.size 11 A n (l.flatMap ActR.enc))
    (d0 : 0 ≤ d) (d1 : d ≤ 255) (n0 : -9223372036854775808 ≤ nn) (n1 : nn ≤ 9223372036854775807) (t0 : -9223372036854775808 ≤ t) (t1 : t ≤ 9223372036854775807) (hcw : c.Wf) :
    Calls Try.prog 20 #[.int .u8 m, .slice A n cap, .agg #[.int .u8 d, .int .i64 nn, .int .i64 t, .int .u8 c.ch, .bool c.at_, .int .u8 c.fa, .int .u8 c.hi, .int .u8 c.co, .int .u8 c.se]] w fun e w' => e = .returned (.bool true) ∧ Up w w' := by
  have HWF := Lib.hid (show ∀ a ∈ plains l, a.Wf from fun a ha => by simp only [plains, List.mem_map] at ha; obtain ⟨x, hx, rfl⟩ := ha; exact (hok x hx).wf)
  have HOK := Lib.hid (layS_ok m0 HWF.out)
  have HLY := Lib.hid (fun W (hu : Up w W) => lay14_is (B := w.heap.size) (w := W) m0 m1 hu.size (hr.below hu) hl hn hc (fun x hx => (hok x hx).keep hu))
  have HAN := Lib.hid (A14At.new w d nn t c)
  have HUN := Lib.hid ((Up.refl w).alloc (.cells #[.int .u8 d, .int .i64 nn, .int .i64 t, .int .u8 c.ch, .bool c.at_, .int .u8 c.fa, .int .u8 c.hi, .int .u8 c.co, .int .u8 c.se] 110))
  have HCW := Lib.hid hcw
  clear hok hr hl HWF hcw
  go_enter Try.func20, Try.ntmps20
  go_wp2_with fail
  refine (awake14 _).mono ?_
  rintro e w0 ⟨rfl, hu0⟩
  have HU0 := Lib.hid (HUN.out.trans hu0)
  have HA0 := Lib.hid (HAN.out.up hu0)
  have z0 := hu0.size
  simp at z0
  clear hu0
  go_wp2_with fail
  refine (HLY.out _ HU0.out).mono ?_
  rintro e w1 ⟨p, g, q, h, rfl, hs, hr, ⟨e1, e2, e3, e4, e5, e6, e7, e8⟩, hu1⟩
  obtain ⟨X, hX⟩ : ∃ X, layS m (plains l) = X := ⟨_, rfl⟩
  rw [hX] at hs hr HOK
  have HU1 := Lib.hid (HU0.out.trans hu1)
  have HS1 := Lib.hid hs
  have HA1 := Lib.hid (HA0.out.up hu1)
  have HNE := Lib.hid (show ¬ two p g w.heap.size ∧ (∀ k, two p g k → w.heap.size ≤ k) ∧ p ≠ w.heap.size ∧ g ≠ w.heap.size from
    ⟨fun e => by rcases e with e | e <;> omega, fun k hk => by rcases hk with e | e <;> omega, by omega, by omega⟩)
  have ca0 := hu1.size
  have k0 := HA1.out.c0
  have f0 := HA1.out.free 0
  have zB := HA1.out.lt
  clear hs hr hu1 hX HLY e1 e2 e3 e4 e5 e6 e7 e8
  have HD := Lib.hid (show d % 4 = 0 ∨ d % 4 = 1 ∨ d % 4 = 2 ∨ d % 4 = 3 by omega)
  have b1 := HA1.out.c1
  have b2 := HA1.out.c2
  have b3 := HA1.out.c3
  have b4 := HA1.out.c4
  have b5 := HA1.out.c5
  have b6 := HA1.out.c6
  have b7 := HA1.out.c7
  have b8 := HA1.out.c8
  have HDO := Lib.hid (fun W Z dd (z : Z.Ok) (h0 : 0 ≤ dd) (h3 : dd ≤ 3) (h : SAt W p g Z) => do4_is dd nn t c h0 h3 HCW.out h z)
  have HB := Lib.hid HOK.out.big
  rcases HD.out with he | he | he | he
  all_goals
    go_wp2_with fail
    refine (HDO.out _ X _ HOK.out (by omega) (by omega) ?hs).mono ?_
    case hs => exact HS1.out.held ((Keep.setCell (Keep.refl (fun k => k = w.heap.size) w1) (p := ⟨w.heap.size, 0, none⟩) (.inl rfl) _).alloc _) HNE.out.2.2.1 HNE.out.2.2.2
    rintro e w5 ⟨rfl, hs5, hk5⟩
    have HA5 := Lib.hid (((HA1.out.set _).up ((Up.refl _).alloc _)).held hk5 HNE.out.1)
    have HU5 := Lib.hid (show Up w w5 from (HU1.out.keep ((Keep.setCell (Keep.refl (fun k => k = w.heap.size) w1) (p := ⟨w.heap.size, 0, none⟩) (.inl rfl) _).alloc _) (fun k hk => by have hk' : k = w.heap.size := hk; omega)).keep hk5 HNE.out.2.1)
    obtain ⟨Z, hsz, okz, hfix⟩ := twice_of HOK.out HCW.out hs5
    have HFX := Lib.hid hfix
    have HOZ := Lib.hid okz
    have HS5 := Lib.hid hsz
    clear hk5 k0 f0 zB b1 b2 b3 b4 b5 b6 b7 b8 he ca0 hs5 hsz okz hfix
    go_wp2_with fail
    refine (scopy_is HS5.out HOZ.out).mono ?_
    rintro e w6 ⟨p', g', rfl, hp', hg', hs6, hu6⟩
    have HS6 := Lib.hid (HS5.out.up hu6)
    have HC6 := Lib.hid hs6
    have HU6 := Lib.hid (HU5.out.trans hu6)
    have HA6 := Lib.hid (HA5.out.up hu6)
    have HN6 := Lib.hid (show ¬ two p g p' ∧ ¬ two p g g' from by
      have z1 := HS5.out.lt
      have z2 := HS5.out.cells.2.1
      exact ⟨fun e => by rcases e with e | e <;> omega, fun e => by rcases e with e | e <;> omega⟩)
    have b0 := HA6.out.c0
    have b1 := HA6.out.c1
    have b2 := HA6.out.c2
    have b3 := HA6.out.c3
    have b4 := HA6.out.c4
    have b5 := HA6.out.c5
    have b6 := HA6.out.c6
    have b7 := HA6.out.c7
    have b8 := HA6.out.c8
    have zB := HA6.out.lt
    clear hs6 hu6 hp' hg'
    go_wp2_with fail
    refine (HDO.out _ Z _ HOZ.out (by omega) (by omega) HS6.out).mono ?_
    rintro e w7 ⟨rfl, hs7, hk7⟩
    rw [HFX.out] at hs7
    have HS7 := Lib.hid hs7
    have HC7 := Lib.hid (HC6.out.held hk7 HN6.out.1 HN6.out.2)
    have HU7 := Lib.hid (HU6.out.keep hk7 HNE.out.2.1)
    clear hs7 hk7 b0 b1 b2 b3 b4 b5 b6 b7 b8 zB
    go_wp2_with fail
    refine (ssame_is HS7.out HC7.out HOZ.out).mono ?_
    rintro e w8 ⟨rfl, hu8⟩
    have HU8 := Lib.hid (HU7.out.trans hu8)
    clear hu8
    go_wp2_with fail
    go_ret
    exact ⟨rfl, HU8.out⟩
end Go.Proofs.Ytjokcfenncogkaa
