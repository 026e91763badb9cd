/-
  EraseSafe. No condition.
-/
import Derived.Test.YtjokcfenncogkaaBk14
import Derived.Test.YtjokcfenncogkaaEqC
namespace Go.Proofs.Ytjokcfenncogkaa
open Go.RowKit Go.Shelf
set_option linter.unusedVariables false
set_option linter.unusedSimpArgs false
attribute [local go_sem] Oper.semAt_some

/-- an act of layer 14 in a block -/
structure A14At (W : World) (B : Nat) (d n t : Int) (c : Cl) : Prop where
  free : FreeAt W B
  lt : B < W.heap.size
  c0 : W.cell? ⟨B, 0, none⟩ = some (.int .u8 d)
  c1 : W.cell? ⟨B, 1, none⟩ = some (.int .i64 n)
  c2 : W.cell? ⟨B, 2, none⟩ = some (.int .i64 t)
  c3 : W.cell? ⟨B, 3, none⟩ = some (.int .u8 c.ch)
  c4 : W.cell? ⟨B, 4, none⟩ = some (.bool c.at_)
  c5 : W.cell? ⟨B, 5, none⟩ = some (.int .u8 c.fa)
  c6 : W.cell? ⟨B, 6, none⟩ = some (.int .u8 c.hi)
  c7 : W.cell? ⟨B, 7, none⟩ = some (.int .u8 c.co)
  c8 : W.cell? ⟨B, 8, none⟩ = some (.int .u8 c.se)
theorem A14At.up {W W' : World} {B : Nat} {d n t : Int} {c : Cl} (h : A14At W B d n t c) (hu : Up W W') : A14At W' B d n t c := by
  have hb := hu.at_ B h.lt
  have hz := hu.size
  exact ⟨fun o => (hb.2 o).trans (h.free o), by have := h.lt; omega, (hb.1 _).trans h.c0, (hb.1 _).trans h.c1, (hb.1 _).trans h.c2, (hb.1 _).trans h.c3, (hb.1 _).trans h.c4, (hb.1 _).trans h.c5, (hb.1 _).trans h.c6, (hb.1 _).trans h.c7, (hb.1 _).trans h.c8⟩
theorem A14At.set {W : World} {B : Nat} {d n t : Int} {c : Cl} (h : A14At W B d n t c) (d' : Int) : A14At (W.setCell ⟨B, 0, none⟩ (.int .u8 d')) B d' n t c := by
  have ho : ∀ o, o ≠ 0 → (W.setCell ⟨B, 0, none⟩ (.int .u8 d')).cell? ⟨B, o, none⟩ = W.cell? ⟨B, o, none⟩ := fun o h0 => World.cell?_setCell_other _ _ _ _ (by simp <;> omega)
  exact ⟨fun o => by simpa [go_sem] using h.free o, by simpa using h.lt, World.cell?_setCell_same (h := h.c0) .., (ho _ (by omega)).trans h.c1, (ho _ (by omega)).trans h.c2, (ho _ (by omega)).trans h.c3, (ho _ (by omega)).trans h.c4, (ho _ (by omega)).trans h.c5, (ho _ (by omega)).trans h.c6, (ho _ (by omega)).trans h.c7, (ho _ (by omega)).trans h.c8⟩
theorem A14At.new (w : World) (d n t : Int) (c : Cl) : A14At (w.alloc (.cells #[.int .u8 d, .int .i64 n, .int .i64 t, .int .u8 c.ch, .bool c.at_, .int .u8 c.fa, .int .u8 c.hi, .int .u8 c.co, .int .u8 c.se] 110)) w.heap.size d n t c := by
  refine ⟨fun o => by simp [go_sem], by simp, ?_, ?_, ?_, ?_, ?_, ?_, ?_, ?_, ?_⟩ <;> simp [go_sem]
set_option maxRecDepth 100000 in
set_option maxHeartbeats 12800000 in
theorem law_safe (m : Int) (A : Option Addr) (n cap : Nat) (l : List ActR) (d nn t : Int) (c : Cl) (w : World) (m0 : 0 ≤ m) (m1 : m ≤ 255) (hl : l.length = n) (hn : n ≤ cap) (hc : cap ≤ maxLen) (hok : ∀ x ∈ l, x.Ok w w.heap.size) (hr : Reads w w.heap.size 11 A n (l.flatMap ActR.enc))
    (d0 : 0 ≤ d) (d1 : d ≤ 255) (n0 : -9223372036854775808 ≤ nn) (n1 : nn ≤ 9223372036854775807) (t0 : -9223372036854775808 ≤ t) (t1 : t ≤ 9223372036854775807) (hcw : c.Wf) :
    Calls Try.prog 17 #[.int .u8 m, .slice A n cap, .agg #[.int .u8 d, .int .i64 nn, .int .i64 t, .int .u8 c.ch, .bool c.at_, .int .u8 c.fa, .int .u8 c.hi, .int .u8 c.co, .int .u8 c.se]] w fun e w' => e = .returned (.bool true) ∧ Up w w' := by
  have fR := fldR0
  have HWF := Lib.hid (show ∀ a ∈ plains l, a.Wf from fun a ha => by simp only [plains, List.mem_map] at ha; obtain ⟨x, hx, rfl⟩ := ha; exact (hok x hx).wf)
  have HOK := Lib.hid (layS_ok m0 HWF.out)
  have HLY := Lib.hid (fun W (hu : Up w W) => lay14_is (B := w.heap.size) (w := W) m0 m1 hu.size (hr.below hu) hl hn hc (fun x hx => (hok x hx).keep hu))
  have HAN := Lib.hid (A14At.new w d nn t c)
  have HUN := Lib.hid ((Up.refl w).alloc (.cells #[.int .u8 d, .int .i64 nn, .int .i64 t, .int .u8 c.ch, .bool c.at_, .int .u8 c.fa, .int .u8 c.hi, .int .u8 c.co, .int .u8 c.se] 110))
  have HCW := Lib.hid hcw
  clear hok hr hl HWF hcw
  go_enter Try.func17, Try.ntmps17
  go_wp2_with fail
  refine (awake14 _).mono ?_
  rintro e w0 ⟨rfl, hu0⟩
  have HU0 := Lib.hid (HUN.out.trans hu0)
  have HA0 := Lib.hid (HAN.out.up hu0)
  have z0 := hu0.size
  simp at z0
  clear hu0
  go_wp2_with fail
  refine (HLY.out _ HU0.out).mono ?_
  rintro e w1 ⟨p, g, q, h, rfl, hs, hr, ⟨e1, e2, e3, e4, e5, e6, e7, e8⟩, hu1⟩
  obtain ⟨X, hX⟩ : ∃ X, layS m (plains l) = X := ⟨_, rfl⟩
  rw [hX] at hs hr HOK
  have HU1 := Lib.hid (HU0.out.trans hu1)
  have HS1 := Lib.hid hs
  have HR1 := Lib.hid hr
  have HA1 := Lib.hid (HA0.out.up hu1)
  have HNE := Lib.hid (show (¬ two p g q ∧ ¬ two p g h ∧ ¬ two p g w.heap.size) ∧ (∀ k, two p g k → w.heap.size ≤ k) ∧ p ≠ w.heap.size ∧ g ≠ w.heap.size ∧ q ≠ w.heap.size ∧ h ≠ w.heap.size from
    ⟨⟨fun e => by rcases e with e | e <;> omega, fun e => by rcases e with e | e <;> omega, fun e => by rcases e with e | e <;> omega⟩, fun k hk => by rcases hk with e | e <;> omega, by omega, by omega, by omega, by omega⟩)
  have ca0 := hu1.size
  have k0 := HA1.out.c0
  have f0 := HA1.out.free 0
  have zB := HA1.out.lt
  clear hs hr hu1 hX HLY e1 e2 e3 e4 e5 e6 e7 e8
  have hd3 : 0 ≤ d % 3 ∧ d % 3 < 3 := by omega
  go_wp2_with fail
  obtain ⟨dd, hdd⟩ : ∃ dd, 3 + d % 3 = dd := ⟨_, rfl⟩
  have hdb : 3 ≤ dd ∧ dd ≤ 5 := by omega
  rw [hdd]
  have HA2 := Lib.hid (HA1.out.set dd)
  have hk2 : Keep (fun k => k = w.heap.size) w1 (w1.setCell ⟨w.heap.size, 0, none⟩ (.int .u8 dd)) := (show Keep (fun k => k = w.heap.size) w1 w1 from Keep.refl _ _).setCell (.inl rfl) _
  have HS2 := Lib.hid (HS1.out.held hk2 HNE.out.2.2.1 HNE.out.2.2.2.1)
  have HR2 := Lib.hid (HR1.out.held hk2 HNE.out.2.2.2.2.1 HNE.out.2.2.2.2.2)
  have HU2 := Lib.hid (show Up w _ from HU1.out.keep hk2 (fun k hk => by have hk' : k = w.heap.size := hk; omega))
  generalize w1.setCell ⟨w.heap.size, 0, none⟩ (.int .u8 dd) = w2 at *
  clear hk2 k0 f0 zB hdd hd3 ca0
  obtain ⟨kn, hkn⟩ : ∃ kn, X.wrap nn = kn := ⟨_, rfl⟩
  have hwn := HOK.out.wrap nn
  rw [hkn] at hwn
  have HWR := Lib.hid (fun W (h' : RAt W q h X) => rwrap_at nn h' HOK.out hkn)
  have HSA := Lib.hid (fun k (hk : k < X.L.length) => starts_at (X := X) hk)
  have HTN := Lib.hid (show X.start (kn : Int) = X.start nn by rw [← hwn.1, start_emod])
  have HKN := Lib.hid hwn.2
  have hsm := HOK.out.small
  have HML := Lib.hid HOK.out.len
  clear hkn hwn
  refine (rstarts_is HR2.out HOK.out).mono ?_
  rintro e w3 ⟨gs, rfl, hG, hints, hu3⟩
  have HGS := Lib.hid (show ¬ two p g gs from fun e => by have h1 := HS2.out.lt; have h2 := HS2.out.cells.2.1; rcases e with e | e <;> omega)
  have HS3 := Lib.hid (HS2.out.up hu3)
  have HR3 := Lib.hid (HR2.out.up hu3)
  have HA3 := Lib.hid (HA2.out.up hu3)
  have HU3 := Lib.hid (HU2.out.trans hu3)
  have HI3 := Lib.hid hints
  have k1 := HA3.out.c1
  have zB := HA3.out.lt
  clear hG hints hu3
  go_wp2_with fail
  refine (HWR.out _ HR3.out).mono ?_
  rintro e w4 ⟨rfl, hu4⟩
  have HS4 := Lib.hid (HS3.out.up hu4)
  have HR4 := Lib.hid (HR3.out.up hu4)
  have HA4 := Lib.hid (HA3.out.up hu4)
  have HU4 := Lib.hid (HU3.out.trans hu4)
  have HI4 := Lib.hid (HI3.out.up hu4)
  clear hu4 k1 zB
  obtain ⟨T, hT⟩ : ∃ T, X.start nn = T := ⟨_, rfl⟩
  have hcl := HI4.out.2.2 kn _ (HSA.out kn HKN.out)
  rw [HTN.out, hT] at hcl
  have zgs := HI4.out.2.1
  have hkl := HKN.out
  obtain ⟨ml, hml⟩ : ∃ ml, X.L.length = ml := ⟨_, rfl⟩
  rw [hml] at hkl hsm ⊢
  have HM := Lib.hid hml
  have HTT := Lib.hid hT
  have hkm : (kn : Int) < (ml : Int) := by omega
  have b0 := HA4.out.c0
  have b1 := HA4.out.c1
  have b2 := HA4.out.c2
  have b3 := HA4.out.c3
  have b4 := HA4.out.c4
  have b5 := HA4.out.c5
  have b6 := HA4.out.c6
  have b7 := HA4.out.c7
  have b8 := HA4.out.c8
  have zB := HA4.out.lt
  have HDO := Lib.hid (do14_is dd nn t c (by omega) (by omega) (by omega) HCW.out HS4.out HOK.out)
  clear hml hT
  go_wp2_with fail
  refine HDO.out.mono ?_
  rintro e w5 ⟨v, Z, rfl, hon, hs5, hk5⟩
  have HON := Lib.hid hon
  have HOZ := Lib.hid (hon.ok HOK.out)
  have HS5 := Lib.hid hs5
  have HR5 := Lib.hid (HR4.out.held hk5 HNE.out.1.1 HNE.out.1.2.1)
  have HU5 := Lib.hid (show Up w w5 from HU4.out.keep hk5 HNE.out.2.1)
  have HI5 := Lib.hid (show IntsAt w5 gs X.starts from by
    have hb := hk5.at_ gs HI4.out.2.1 HGS.out
    exact ⟨fun o => (hb.2 o).trans (HI4.out.1 o), by have := hk5.size; have := HI4.out.2.1; omega, fun i x hx => (hb.1 i).trans (HI4.out.2.2 i x hx)⟩)
  clear hon hs5 hk5 b0 b1 b2 b3 b4 b5 b6 b7 b8 zB hcl zgs hkl hkm hdb
  obtain ⟨cap4, q1, q2, k4⟩ := HR5.out.h4
  have zq := HR5.out.lt
  rw [HM.out] at q1 k4
  have hcp : (cap4 : Int) ≤ 9223372036854775807 := by simp [maxLen] at q2; omega
  clear q2
  go_wp2_with fail
  go_loopw [44] (fun i wr => ∃ j : Nat, j ≤ ml ∧ i = .int .i64 (j : Int) ∧ Up w5 wr) (fun i _ => ml - (intOf i).toNat)
  case atStart => exact ⟨0, by omega, rfl, Up.refl _⟩
  case round =>
    obtain ⟨j, hj, rfl, huj⟩ := hrel
    have HUJ := Lib.hid huj
    have zj := huj.size
    by_cases hlt : j < ml
    · have hjl : j < X.L.length := by rw [HM.out]; exact hlt
      have hjm : (j : Int) < (ml : Int) := by omega
      have hat := Spc.at_nat HOK.out hjl
      have hrw := HR5.out.up huj
      obtain ⟨dx, hdx⟩ : ∃ dx, X.at_ (j : Int) = dx := ⟨_, rfl⟩
      obtain ⟨dz, hdz⟩ : ∃ dz, Z.at_ (j : Int) = dz := ⟨_, rfl⟩
      have HAZ := Lib.hid (fun W (h' : SAt W p g Z) => sat_op (j : Int) h' HOZ.out hdz)
      have hA : X.isA (j : Int) = dx.at_ := by unfold Spc.isA; rw [hdx]
      have HAT := Lib.hid (fun (ha : dx.at_ = true) => show orM dz = orM dx by rw [← hdx, ← hdz]; exact HON.out.attr HOK.out hjl (by rw [hA]; exact ha))
      have HCO := Lib.hid (fun (ha : dx.at_ = false) => show ({ dz with ch := 0 } : Cl) = { dx with ch := 0 } by rw [← hdx, ← hdz]; exact HON.out.code HOK.out (by rw [hA]; exact ha))
      have HFA := Lib.hid (fun (ha : dx.at_ = false) (hs : X.start (j : Int) ≠ T) => show dz = dx by rw [← hdx, ← hdz]; exact HON.out.far HOK.out hjl (by rw [hA]; exact ha) (by rw [HTT.out]; exact hs))
      have HSH := Lib.hid (fun (h1 : 0 ≤ T) (h2 : fP (X.at_ T).fa = true) => show dz = dx by rw [← hdx, ← hdz, HON.out.shut (by rw [HTT.out]; exact h1) (by rw [HTT.out]; exact h2)])
      rw [hdx] at hat
      obtain ⟨y0, y1, y2, y3, y4, y5⟩ := hrw.cells.2.2 j dx hat
      have zg := hrw.cells.2.1
      have hST := (HI5.out.up huj).2.2 j _ (HSA.out j hjl)
      have zgs := (HI5.out.up huj).2.1
      obtain ⟨S, hS⟩ : ∃ S, X.start (j : Int) = S := ⟨_, rfl⟩
      have hsr := start_range HOK.out (j : Int)
      rw [hS] at hST HFA hsr
      have HRJ := Lib.hid hrw
      have HSJ := Lib.hid (HS5.out.up huj)
      obtain ⟨xch, xat, xfa, xhi, xco, xse⟩ := dx
      obtain ⟨zch, zat, zfa, zhi, zco, zse⟩ := dz
      simp only at y0 y1 y2 y3 y4 y5 HAZ HAT HCO HFA
      have HUA := Lib.hid (huj.alloc (.cells #[.int .u8 xch, .bool xat, .int .u8 xfa, .int .u8 xhi, .int .u8 xco, .int .u8 xse] 25))
      clear hat hrw hdx hdz hA hS huj hjl
      go_wp2_with fail
      refine (HAZ.out _ (HS5.out.up HUA.out)).mono ?_
      rintro e w6 ⟨rfl, hu6⟩
      have hb := hu6.at_ wr.heap.size (by simp)
      have b0 := (hb.1 0).trans (by simp [go_sem] : _ = some (.int .u8 xch))
      have b1 := (hb.1 1).trans (by simp [go_sem] : _ = some (.bool xat))
      have b2 := (hb.1 2).trans (by simp [go_sem] : _ = some (.int .u8 xfa))
      have b3 := (hb.1 3).trans (by simp [go_sem] : _ = some (.int .u8 xhi))
      have b4 := (hb.1 4).trans (by simp [go_sem] : _ = some (.int .u8 xco))
      have b5 := (hb.1 5).trans (by simp [go_sem] : _ = some (.int .u8 xse))
      have f0 := (hb.2 0).trans (by simp [go_sem] : _ = false)
      have f2 := (hb.2 2).trans (by simp [go_sem] : _ = false)
      have g0 := ((hu6.at_ gs (by simp; omega)).1 j).trans (by simpa [go_sem, World.cell?_alloc_lt _ _ ⟨gs, j, none⟩ zgs] using hST : _ = some (.int .i64 S))
      have zb : wr.heap.size < w6.heap.size := by have := hu6.size; simp at this; omega
      have zg6 : gs < w6.heap.size := by omega
      have hW6 : Up w5 w6 := HUA.out.trans hu6
      have HR6 := Lib.hid (HR5.out.up hW6)
      clear hb hu6 hST y0 y1 y2 y3 y4 y5
      cases xat
      · have hco := HCO.out rfl
        injection hco with _ e1 e2 e3 e4 e5
        subst e1 e2 e3 e4 e5
        by_cases hst : S = T
        · subst hst
          rcases hsr with rfl | ⟨h0, h1⟩
          · have ea := fun W => eqC (c := ⟨0, false, zfa, zhi, zco, zse⟩) (d := ⟨0, false, zfa, zhi, zco, zse⟩) (b := true) (by simp) W
            simp only at ea
            go_wp2_with fail
            go_roundw
            case rel => exact ⟨j + 1, by omega, by go_num, by (repeat (first | with_reducible exact Up.refl _ | with_reducible refine Up.alloc ?_ _ | with_reducible refine Up.drew ?_ | with_reducible refine Up.drewN ?_ _ | with_reducible refine Up.setCell ?_ (by (try simp) <;> omega) _ | with_reducible assumption | with_reducible refine Up.trans ?_ (by assumption)))⟩
            case measure => simp [intOf]; omega
          · obtain ⟨ks, rfl⟩ : ∃ ks : Nat, S = (ks : Int) := ⟨S.toNat, by omega⟩
            have hkl : ks < X.L.length := by have := HML.out; omega
            obtain ⟨f, hf⟩ : ∃ f, (X.at_ (ks : Int)).fa = f := ⟨_, rfl⟩
            have HRF := Lib.hid (fun W (h' : RAt W q h X) => rfield_is h' HOK.out hkl hf)
            rw [hf] at HSH
            have hks : (0 : Int) ≤ (ks : Int) := by omega
            clear hf hkl h0 h1
            have HUW := Lib.hid hW6
            go_wp2_with fail
            refine (HRF.out _ (HR6.out.up ((Up.refl _).alloc _))).mono ?_
            rintro e w7 ⟨rfl, hu7⟩
            have hb := hu7.at_ wr.heap.size (by simp; omega)
            have hc := hu7.at_ w6.heap.size (by simp)
            have hd := ((Up.refl w6).alloc (.cells #[.int .u8 zch, .bool false, .int .u8 zfa, .int .u8 zhi, .int .u8 zco, .int .u8 zse] 25)).at_ wr.heap.size zb
            have c0 := (hb.1 0).trans ((hd.1 0).trans b0)
            have c1 := (hb.1 1).trans ((hd.1 1).trans b1)
            have c2 := (hb.1 2).trans ((hd.1 2).trans b2)
            have c3 := (hb.1 3).trans ((hd.1 3).trans b3)
            have c4 := (hb.1 4).trans ((hd.1 4).trans b4)
            have c5 := (hb.1 5).trans ((hd.1 5).trans b5)
            have g1 := (hb.2 0).trans ((hd.2 0).trans f0)
            have d0 := (hc.1 0).trans (by simp [go_sem] : _ = some (.int .u8 zch))
            have d1 := (hc.1 1).trans (by simp [go_sem] : _ = some (.bool false))
            have d2 := (hc.1 2).trans (by simp [go_sem] : _ = some (.int .u8 zfa))
            have d3 := (hc.1 3).trans (by simp [go_sem] : _ = some (.int .u8 zhi))
            have d4 := (hc.1 4).trans (by simp [go_sem] : _ = some (.int .u8 zco))
            have d5 := (hc.1 5).trans (by simp [go_sem] : _ = some (.int .u8 zse))
            have g2 := (hc.2 0).trans (by simp [go_sem] : _ = false)
            have z7 := hu7.size
            simp at z7
            have zb7 : wr.heap.size < w7.heap.size := by omega
            have zc7 : w6.heap.size < w7.heap.size := by omega
            have hW7 : Up w5 w7 := (hW6.alloc _).trans hu7
            clear hb hc hd hu7 b0 b1 b2 b3 b4 b5 f0 f2 hW6 g0
            obtain ⟨bp, hbp⟩ : ∃ bp, fP f = bp := ⟨_, rfl⟩
            rw [hbp] at HSH ⊢
            cases bp
            · have ea := fun W => eqC (c := ⟨0, false, zfa, zhi, zco, zse⟩) (d := ⟨0, false, zfa, zhi, zco, zse⟩) (b := true) (by simp) W
              simp only at ea
              go_wp2_with fail
              go_roundw
              case rel => exact ⟨j + 1, by omega, by go_num, by (repeat (first | with_reducible exact Up.refl _ | with_reducible refine Up.alloc ?_ _ | with_reducible refine Up.drew ?_ | with_reducible refine Up.drewN ?_ _ | with_reducible refine Up.setCell ?_ (by (try simp) <;> omega) _ | with_reducible assumption | with_reducible refine Up.trans ?_ (by assumption)))⟩
              case measure => simp [intOf]; omega
            · have hsh := HSH.out hks rfl
              injection hsh with e0
              subst e0
              have ea := fun W => eqC (c := ⟨zch, false, zfa, zhi, zco, zse⟩) (d := ⟨zch, false, zfa, zhi, zco, zse⟩) (b := true) (by simp) W
              simp only at ea
              go_wp2_with fail
              go_roundw
              case rel => exact ⟨j + 1, by omega, by go_num, by (repeat (first | with_reducible exact Up.refl _ | with_reducible refine Up.alloc ?_ _ | with_reducible refine Up.drew ?_ | with_reducible refine Up.drewN ?_ _ | with_reducible refine Up.setCell ?_ (by (try simp) <;> omega) _ | with_reducible assumption | with_reducible refine Up.trans ?_ (by assumption)))⟩
              case measure => simp [intOf]; omega
        · have hne : (S != T) = true := by simpa using hst
          have hfa := HFA.out rfl hst
          injection hfa with e0
          subst e0
          have ea := fun W => eqC (c := ⟨zch, false, zfa, zhi, zco, zse⟩) (d := ⟨zch, false, zfa, zhi, zco, zse⟩) (b := true) (by simp) W
          simp only at ea
          go_wp2_with fail
          go_roundw
          case rel => exact ⟨j + 1, by omega, by go_num, by (repeat (first | with_reducible exact Up.refl _ | with_reducible refine Up.alloc ?_ _ | with_reducible refine Up.drew ?_ | with_reducible refine Up.drewN ?_ _ | with_reducible refine Up.setCell ?_ (by (try simp) <;> omega) _ | with_reducible assumption | with_reducible refine Up.trans ?_ (by assumption)))⟩
          case measure => simp [intOf]; omega
      · have hor := HAT.out rfl
        unfold orM at hor
        injection hor with e0 e1 e2 e3 e4 e5
        simp only at e0 e1 e2 e3 e4 e5
        subst e0 e1 e3 e4 e5
        obtain ⟨ox, hox⟩ : ∃ ox, bits .or .u8 xfa 1 = ox := ⟨_, rfl⟩
        rw [hox] at e2
        have ea := fun W => eqC (c := ⟨zch, true, ox, zhi, zco, zse⟩) (d := ⟨zch, true, ox, zhi, zco, zse⟩) (b := true) (by simp) W
        simp only at ea
        go_wp2_with fail
        go_roundw
        case rel => exact ⟨j + 1, by omega, by go_num, by (repeat (first | with_reducible exact Up.refl _ | with_reducible refine Up.alloc ?_ _ | with_reducible refine Up.drew ?_ | with_reducible refine Up.drewN ?_ _ | with_reducible refine Up.setCell ?_ (by (try simp) <;> omega) _ | with_reducible assumption | with_reducible refine Up.trans ?_ (by assumption)))⟩
        case measure => simp [intOf]; omega
    · obtain rfl : j = ml := by omega
      have HCU := Lib.hid (fun W (h' : SAt W p g Z) => scur_is h')
      rw [HON.out.cur] at HCU
      have hrw := HR5.out.up huj
      have kk5 := hrw.h5
      have zq5 := hrw.lt
      have HSJ := Lib.hid (HS5.out.up huj)
      have ee : (X.cur == X.cur) = true := by simp
      generalize X.cur = cu at *
      clear huj hrw
      go_wp2_with fail
      refine wp_region_mix (NS := []) [] rfl (by kernel_rfl) (by kernel_rfl) (by simp) (by simp) ?_
      repeat (first
        | (refine mix_skip rfl rfl ?_; simp only [Act.put, List.setIfInBounds_toArray, List.set_cons_succ, List.set_cons_zero])
        | (refine mix_q rfl rfl rfl (by kernel_rfl) rfl rfl rfl ?_
           apply Exists.intro
           refine ⟨fun Wm => ?_, ?_⟩
           · simp only [fin]
             skip
             intro K hK
             go_wp2_with ((go_at_call 33; (with_reducible refine (HCU.out _ (HSJ.out.up (up_upOf _ _))).mono ?_); rintro e w' ⟨rfl, rfl⟩))
             refine hK _ _ ?_ ?_ ?_
             · (repeat (first | with_reducible exact Up.refl _ | with_reducible refine Up.alloc ?_ _ | with_reducible refine Up.drew ?_ | with_reducible refine Up.drewN ?_ _ | with_reducible refine Up.setCell ?_ (by (try simp) <;> omega) _ | with_reducible assumption | with_reducible refine Up.trans ?_ (by assumption)))
             · rfl
             · exact tmps_at rfl
           simp only [Act.put, List.setIfInBounds_toArray, List.set_cons_succ, List.set_cons_zero]))
      refine mix_nil ?_
      intro w6 hb_w6
      simp only [fin]
      have hu_w6 : Up wr w6 := by (repeat (first | with_reducible exact Up.refl _ | with_reducible refine Up.alloc ?_ _ | with_reducible refine Up.drew ?_ | with_reducible refine Up.drewN ?_ _ | with_reducible refine Up.setCell ?_ (by (try simp) <;> omega) _ | with_reducible assumption | with_reducible refine Up.trans ?_ (by assumption)))
      have hz_w6 := Up.size hb_w6
      try simp at hz_w6
      obtain ⟨bc_w6_0, bf_w6_0⟩ := hu_w6.at_ (q) (by omega)
      have zb_w6_0 : q < w6.heap.size := by omega
      go_wp2_with fail
      go_ret
      exact ⟨rfl, HU5.out.trans (HUJ.out.trans hu_w6)⟩
end Go.Proofs.Ytjokcfenncogkaa
