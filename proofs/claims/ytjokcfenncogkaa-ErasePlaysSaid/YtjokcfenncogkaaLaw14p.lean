/-
  ErasePlays. No condition.
-/
import Derived.Test.YtjokcfenncogkaaRf14
import Derived.Test.YtjokcfenncogkaaSame14
import Derived.Deep.RegionWith
namespace Go.Proofs.Ytjokcfenncogkaa
open Go.RowKit Go.Shelf
set_option linter.unusedVariables false
set_option linter.unusedSimpArgs false
attribute [local go_sem] Oper.semAt_some

/-- an act of layer 14 in a block -/
structure A14At (W : World) (B : Nat) (d n t : Int) (c : Cl) : Prop where
  free : FreeAt W B
  lt : B < W.heap.size
  c0 : W.cell? ⟨B, 0, none⟩ = some (.int .u8 d)
  c1 : W.cell? ⟨B, 1, none⟩ = some (.int .i64 n)
  c2 : W.cell? ⟨B, 2, none⟩ = some (.int .i64 t)
  c3 : W.cell? ⟨B, 3, none⟩ = some (.int .u8 c.ch)
  c4 : W.cell? ⟨B, 4, none⟩ = some (.bool c.at_)
  c5 : W.cell? ⟨B, 5, none⟩ = some (.int .u8 c.fa)
  c6 : W.cell? ⟨B, 6, none⟩ = some (.int .u8 c.hi)
  c7 : W.cell? ⟨B, 7, none⟩ = some (.int .u8 c.co)
  c8 : W.cell? ⟨B, 8, none⟩ = some (.int .u8 c.se)
theorem A14At.up {W W' : World} {B : Nat} {d n t : Int} {c : Cl} (h : A14At W B d n t c) (hu : Up W W') : A14At W' B d n t c := by
  have hb := hu.at_ B h.lt
  have hz := hu.size
  exact ⟨fun o => (hb.2 o).trans (h.free o), by have := h.lt; omega, (hb.1 _).trans h.c0, (hb.1 _).trans h.c1, (hb.1 _).trans h.c2, (hb.1 _).trans h.c3, (hb.1 _).trans h.c4, (hb.1 _).trans h.c5, (hb.1 _).trans h.c6, (hb.1 _).trans h.c7, (hb.1 _).trans h.c8⟩
theorem A14At.set {W : World} {B : Nat} {d n t : Int} {c : Cl} (h : A14At W B d n t c) (d' : Int) : A14At (W.setCell ⟨B, 0, none⟩ (.int .u8 d')) B d' n t c := by
  have ho : ∀ o, o ≠ 0 → (W.setCell ⟨B, 0, none⟩ (.int .u8 d')).cell? ⟨B, o, none⟩ = W.cell? ⟨B, o, none⟩ := fun o h0 => World.cell?_setCell_other _ _ _ _ (by simp <;> omega)
  exact ⟨fun o => by simpa [go_sem] using h.free o, by simpa using h.lt, World.cell?_setCell_same (h := h.c0) .., (ho _ (by omega)).trans h.c1, (ho _ (by omega)).trans h.c2, (ho _ (by omega)).trans h.c3, (ho _ (by omega)).trans h.c4, (ho _ (by omega)).trans h.c5, (ho _ (by omega)).trans h.c6, (ho _ (by omega)).trans h.c7, (ho _ (by omega)).trans h.c8⟩
theorem A14At.held {W W' : World} {B : Nat} {d n t : Int} {c : Cl} {E : Nat → Prop} (h : A14At W B d n t c) (hk : Keep E W W') (hE : ¬ E B) : A14At W' B d n t c := by
  have hb := hk.at_ B h.lt hE
  have hz := hk.size
  exact ⟨fun o => (hb.2 o).trans (h.free o), by have := h.lt; omega, (hb.1 _).trans h.c0, (hb.1 _).trans h.c1, (hb.1 _).trans h.c2, (hb.1 _).trans h.c3, (hb.1 _).trans h.c4, (hb.1 _).trans h.c5, (hb.1 _).trans h.c6, (hb.1 _).trans h.c7, (hb.1 _).trans h.c8⟩
theorem A14At.new (w : World) (d n t : Int) (c : Cl) : A14At (w.alloc (.cells #[.int .u8 d, .int .i64 n, .int .i64 t, .int .u8 c.ch, .bool c.at_, .int .u8 c.fa, .int .u8 c.hi, .int .u8 c.co, .int .u8 c.se] 110)) w.heap.size d n t c := by
  refine ⟨fun o => by simp [go_sem], by simp, ?_, ?_, ?_, ?_, ?_, ?_, ?_, ?_, ?_⟩ <;> simp [go_sem]
/-- what the first j acts leave -/
def play14 (X : Spc) (l : List A14) : Nat → Spc
  | 0 => X
  | j + 1 => match l[j]? with
    | some a => ((play14 X l j).do6 (a.d % 6) a.n a.t a.c).1
    | none => play14 X l j
theorem play14_succ {X : Spc} {l : List A14} {j : Nat} {a : A14} (h : l[j]? = some a) : play14 X l (j + 1) = ((play14 X l j).do6 (a.d % 6) a.n a.t a.c).1 := by
  show (match l[j]? with | some a => ((play14 X l j).do6 (a.d % 6) a.n a.t a.c).1 | none => play14 X l j) = _
  rw [h]
theorem play14_ok {X : Spc} (ok : X.Ok) (l : List A14) (hl : ∀ a ∈ l, a.Ok) (j : Nat) : (play14 X l j).Ok := by
  induction j with
  | zero => exact ok
  | succ j ih =>
    cases h : l[j]? with
    | none =>
      have e : play14 X l (j + 1) = play14 X l j := by
        show (match l[j]? with | some a => ((play14 X l j).do6 (a.d % 6) a.n a.t a.c).1 | none => play14 X l j) = _
        rw [h]
      rw [e]; exact ih
    | some a =>
      rw [play14_succ h]
      exact (do6_ok ih _ _ _ (hl a (List.mem_of_getElem? h)).2.2.2).1
set_option maxRecDepth 100000 in
set_option maxHeartbeats 12800000 in
theorem law_plays14 (m : Int) (A : Option Addr) (n cap : Nat) (l : List ActR) (A2 : Option Addr) (n2 cap2 : Nat) (l2 : List A14) (w : World) (m0 : 0 ≤ m) (m1 : m ≤ 255) (hl : l.length = n) (hn : n ≤ cap) (hc : cap ≤ maxLen) (hok : ∀ x ∈ l, x.Ok w w.heap.size) (hr : Reads w w.heap.size 11 A n (l.flatMap ActR.enc))
    (hl2 : l2.length = n2) (hn2 : n2 ≤ cap2) (hc2 : cap2 ≤ maxLen) (hok2 : ∀ x ∈ l2, x.Ok) (hr2 : Reads w w.heap.size 9 A2 n2 (l2.flatMap A14.enc)) :
    Calls Try.prog 18 #[.int .u8 m, .slice A n cap, .slice A2 n2 cap2] w fun e w' => e = .returned (.bool true) ∧ Up w w' := by
  have HWF := Lib.hid (show ∀ a ∈ plains l, a.Wf from fun a ha => by simp only [plains, List.mem_map] at ha; obtain ⟨x, hx, rfl⟩ := ha; exact (hok x hx).wf)
  have HOK := Lib.hid (layS_ok m0 HWF.out)
  have HLY := Lib.hid (fun W (hu : Up w W) => lay14_is (B := w.heap.size) (w := W) m0 m1 hu.size (hr.below hu) hl hn hc (fun x hx => (hok x hx).keep hu))
  have HR2 := Lib.hid (fun W (hu : Up w W) => hr2.below hu)
  have HL2 := Lib.hid hl2
  have HW2 := Lib.hid hok2
  have hcp : (cap2 : Int) ≤ 9223372036854775807 := by simp [maxLen] at hc2; omega
  clear hok hr hl hr2 hl2 HWF hok2
  go_enter Try.func18, Try.ntmps18
  go_wp2_with fail
  refine (awake14 _).mono ?_
  rintro e w0 ⟨rfl, hu0⟩
  have HU0 := Lib.hid hu0
  clear hu0
  go_wp2_with fail
  refine (HLY.out _ HU0.out).mono ?_
  rintro e w1 ⟨p, g, q, h, rfl, hs, hr, ⟨e1, e2, e3, e4, e5, e6, e7, e8⟩, hu1⟩
  obtain ⟨X, hX⟩ : ∃ X, layS m (plains l) = X := ⟨_, rfl⟩
  rw [hX] at hs hr HOK
  have HU1 := Lib.hid (HU0.out.trans hu1)
  have HS1 := Lib.hid hs
  have HR1 := Lib.hid hr
  have z0 := HU0.out.size
  have HNE := Lib.hid (show (w.heap.size ≤ p ∧ w.heap.size ≤ g ∧ w.heap.size ≤ q ∧ w.heap.size ≤ h) ∧ (¬ two p g q ∧ ¬ two p g h) ∧ ¬ two q h p ∧ ¬ two q h g from
    ⟨⟨by omega, by omega, by omega, by omega⟩, ⟨fun e => by rcases e with e | e <;> omega, fun e => by rcases e with e | e <;> omega⟩, fun e => by rcases e with e | e <;> omega, fun e => by rcases e with e | e <;> omega⟩)
  have HPO := Lib.hid (fun j => play14_ok HOK.out l2 HW2.out j)
  clear hs hr hu1 hX HLY e1 e2 e3 e4 e5 e6 e7 e8
  go_wp2_with fail
  go_loopw [21] (fun i wr => ∃ j : Nat, j ≤ n2 ∧ i = .int .i64 (j : Int) ∧ SAt wr p g (play14 X l2 j) ∧ RAt wr q h (play14 X l2 j) ∧ Up w wr) (fun i _ => n2 - (intOf i).toNat)
  case atStart => exact ⟨0, by omega, rfl, HS1.out, HR1.out, HU1.out⟩
  case round =>
    obtain ⟨j, hj, rfl, hsj, hrj, huj⟩ := hrel
    have HUJ := Lib.hid huj
    have HSJ := Lib.hid hsj
    have HRJ := Lib.hid hrj
    have HPK := Lib.hid (HPO.out j)
    have HSA := Lib.hid (fun W (h1 : SAt W p g (play14 X l2 j)) (h2 : RAt W q h (play14 X l2 j)) => same14_is h1 h2 (HPO.out j))
    clear hsj hrj
    by_cases hlt : j < n2
    · obtain ⟨x, hx⟩ : ∃ x, l2[j]? = some x := ⟨_, List.getElem?_eq_getElem (by have := HL2.out; omega)⟩
      have HSC := Lib.hid (play14_succ (X := X) hx)
      obtain ⟨wd, wn, wt, wc⟩ := HW2.out x (List.mem_of_getElem? hx)
      have hrd := HR2.out wr huj
      have hzz : w.heap.size ≤ wr.heap.size := huj.size
      obtain ⟨b, off, rfl, hb⟩ := hrd.form (by omega)
      have hrow := row_at (k := 9) (fun _ => rfl) hrd hx (by omega)
      have x0 := hrow 0 _ rfl
      have x1 := hrow 1 _ rfl
      have x2 := hrow 2 _ rfl
      have x3 := hrow 3 _ rfl
      have x4 := hrow 4 _ rfl
      have x5 := hrow 5 _ rfl
      have x6 := hrow 6 _ rfl
      have x7 := hrow 7 _ rfl
      have x8 := hrow 8 _ rfl
      rw [Nat.add_zero] at x0
      have zb : b < wr.heap.size := by omega
      have hjn : (j : Int) < (n2 : Int) := by omega
      have HZZ := Lib.hid hzz
      clear hrd huj hrow hx hzz
      obtain ⟨Y, hY⟩ : ∃ Y, play14 X l2 j = Y := ⟨_, rfl⟩
      rw [hY] at HSJ HRJ HSC HPK HSA
      clear hY
      obtain ⟨xd, xn, xt, xc⟩ := x
      simp only at HSC wd wn wt wc
      have HAN := Lib.hid (A14At.new wr xd xn xt xc)
      by_cases h12 : j < 12
      · have h12' : ¬ 12 ≤ (j : Int) := by omega
        have HD := Lib.hid (fun W (h' : SAt W p g Y) => cdo6_is xd xn xt xc wd.1 wd.2 wc h' HPK.out)
        have HD2 := Lib.hid (fun W (h' : RAt W q h Y) => rdo6_is xd xn xt xc wd.1 wd.2 wc h' HPK.out)
        obtain ⟨Z, hZ⟩ : ∃ Z, (Y.do6 (xd % 6) xn xt xc).1 = Z := ⟨_, rfl⟩
        obtain ⟨v, hv⟩ : ∃ v, (Y.do6 (xd % 6) xn xt xc).2 = v := ⟨_, rfl⟩
        rw [hZ] at HD HD2 HSC
        rw [hv] at HD HD2
        clear hZ hv wd wn wt wc
        obtain ⟨cch, cat, cfa, chi, cco, cse⟩ := xc
        simp only [A14.enc, Cl.enc] at x0 x1 x2 x3 x4 x5 x6 x7 x8
        simp only at HD HD2 HAN
        have hvv : (v != v) = false := by simp
        have HUA := Lib.hid (((Up.refl wr).alloc (.cells #[.int .u8 xd, .int .i64 xn, .int .i64 xt, .int .u8 cch, .bool cat, .int .u8 cfa, .int .u8 chi, .int .u8 cco, .int .u8 cse] 110)).drew)
        have hnb : ¬ two p g wr.heap.size := fun e => by have h1 := HSJ.out.lt; have h2 := HSJ.out.cells.2.1; rcases e with e | e <;> omega
        go_wp2_with fail
        go_region_with (first
          | (go_at_call 103; refine (HD.out _ (HSJ.out.up HUA.out)).mono ?_; rintro e w3 ⟨rfl, hs3, hk3⟩; have HB3 := Lib.hid ((HAN.out.up ((Up.refl _).drew)).held hk3 hnb); obtain ⟨fr, zz, y0, y1, y2, y3, y4, y5, y6, y7, y8⟩ := HB3.out; have HS3 := Lib.hid hs3; have HR3 := Lib.hid ((HRJ.out.up HUA.out).held hk3 HNE.out.2.1.1 HNE.out.2.1.2); have HU3 := Lib.hid ((HUJ.out.trans HUA.out).keep hk3 (fun i hi => by have h9 := HNE.out.1; rcases hi with hi | hi <;> omega)); clear hs3 hk3)
          | (go_at_call 104; refine (HD2.out _ HR3.out).mono ?_; rintro e w4 ⟨rfl, hr4, hk4⟩; have HR4 := Lib.hid hr4; have HS4 := Lib.hid (HS3.out.held hk4 HNE.out.2.2.1 HNE.out.2.2.2); have HU4 := Lib.hid (HU3.out.keep hk4 (fun i hi => by have h9 := HNE.out.1; rcases hi with hi | hi <;> omega)); clear hr4 hk4))
        all_goals
          go_wp2_with fail
          go_roundw
          case rel => exact ⟨j + 1, by omega, by go_num, by rw [HSC.out]; exact HS4.out, by rw [HSC.out]; exact HR4.out, HU4.out⟩
          case measure => simp [intOf]; omega
      · have h12' : 12 ≤ (j : Int) := by omega
        obtain ⟨cch, cat, cfa, chi, cco, cse⟩ := xc
        simp only [A14.enc, Cl.enc] at x0 x1 x2 x3 x4 x5 x6 x7 x8
        go_wp2_with fail
        refine (HSA.out _ (HSJ.out.up ((Up.refl wr).alloc _)) (HRJ.out.up ((Up.refl wr).alloc _))).mono ?_
        rintro e w5 ⟨rfl, hu5⟩
        have HU5 := Lib.hid ((HUJ.out.alloc _).trans hu5)
        clear hu5
        go_wp2_with fail
        go_ret
        exact ⟨rfl, HU5.out⟩
    · obtain rfl : j = n2 := by omega
      clear huj
      go_wp2_with fail
      refine (HSA.out _ HSJ.out HRJ.out).mono ?_
      rintro e w5 ⟨rfl, hu5⟩
      have HU5 := Lib.hid (HUJ.out.trans hu5)
      clear hu5
      go_wp2_with fail
      go_ret
      exact ⟨rfl, HU5.out⟩
end Go.Proofs.Ytjokcfenncogkaa
