/-
  The walk of FieldModifies. No condition but where the acts lie.
-/
import Derived.Test.YtjokcfenncogkaaFunmod13
import Derived.Test.YtjokcfenncogkaaSame13
import Derived.Test.YtjokcfenncogkaaEqI13
namespace Go.Proofs.Ytjokcfenncogkaa
open Go.RowKit
set_option linter.unusedVariables false
set_option linter.unusedSimpArgs false

theorem unmod_none {X : Spc} (ok : X.Ok) : X.unmodify.modified = [] := by
  obtain ⟨h1, h2, h3, h4, h5⟩ := unmodL_ok ok X.attrs
  have ha : X.unmodify.attrs = X.attrs := attrs_congr ok h1 h2 h5
  unfold Spc.modified
  rw [ha, List.filter_eq_nil_iff]
  intro a hm
  obtain ⟨k, rfl, hk, hA⟩ := mem_those.1 (show a ∈ those (isAt X.L) X.L.length from hm)
  have := unmod_clean ok X.attrs (k : Int) ⟨(k : Int), hm, rfl⟩ (by rw [Spc.isA_nat ok hk]; exact hA)
  show ¬ fM (X.unmodify.at_ (k : Int)).fa = true
  rw [show X.unmodify.at_ (k : Int) = (unmodL X X.attrs).at_ (k : Int) from rfl, this]
  simp
theorem modified_len {X : Spc} (ok : X.Ok) : X.modified.length ≤ 65536 := by
  have h1 : X.modified.length ≤ X.attrs.length := List.length_filter_le _ _
  have h2 : X.attrs.length ≤ X.L.length := those_len _ _
  have := ok.small
  omega
set_option maxRecDepth 100000 in
set_option maxHeartbeats 12800000 in
theorem law_modifies (m : Int) (A : Option Addr) (n cap : Nat) (l : List ActR) (nn : Int) (w : World) (m0 : 0 ≤ m) (m1 : m ≤ 255) (hl : l.length = n) (hn : n ≤ cap) (hc : cap ≤ maxLen) (hok : ∀ x ∈ l, x.Ok w w.heap.size) (hr : Reads w w.heap.size 11 A n (l.flatMap ActR.enc))
    (n0 : -9223372036854775808 ≤ nn) (n1 : nn ≤ 9223372036854775807) :
    Calls Try.prog 11 #[.int .u8 m, .slice A n cap, .int .i64 nn] w fun e w' => e = .returned (.bool true) ∧ Up w w' := by
  have HWF := Lib.hid (show ∀ a ∈ plains l, a.Wf from fun a ha => by simp only [plains, List.mem_map] at ha; obtain ⟨x, hx, rfl⟩ := ha; exact (hok x hx).wf)
  have HOK := Lib.hid (layS_ok m0 HWF.out)
  have HLY := Lib.hid (fun W (hu : Up w W) => lay13_is (B := w.heap.size) (w := W) m0 m1 hu.size (hr.below hu) hl hn hc (fun x hx => (hok x hx).keep hu))
  clear hok hr hl HWF
  go_enter Try.func11, Try.ntmps11
  go_wp2_with fail
  refine (awake13 _).mono ?_
  rintro e w0 ⟨rfl, hu0⟩
  have HU0 := Lib.hid hu0
  have z0 := hu0.size
  clear hu0
  go_wp2_with fail
  refine (HLY.out _ HU0.out).mono ?_
  rintro e w1 ⟨p, g, q, h, rfl, hs, hr, ⟨e1, e2, e3, e4, e5, e6, e7, e8⟩, hu1⟩
  obtain ⟨X, hX⟩ : ∃ X, layS m (plains l) = X := ⟨_, rfl⟩
  rw [hX] at hs hr HOK
  have HU1 := Lib.hid (HU0.out.trans hu1)
  have HS1 := Lib.hid hs
  have HR1 := Lib.hid hr
  have HNE := Lib.hid (show (¬ two p g q ∧ ¬ two p g h ∧ ¬ two q h p ∧ ¬ two q h g) ∧ ∀ k, (two p g k ∨ two q h k) → w.heap.size ≤ k from
    ⟨⟨fun e => by rcases e with e | e <;> omega, fun e => by rcases e with e | e <;> omega, fun e => by rcases e with e | e <;> omega, fun e => by rcases e with e | e <;> omega⟩, fun k hk => by rcases hk with (e | e) | (e | e) <;> omega⟩)
  clear hs hr hu1 hX HLY e1 e2 e3 e4 e5 e6 e7 e8
  have HO1 := Lib.hid (HOK.out.modify nn)
  have HO2 := Lib.hid ((unmodL_ok HO1.out (X.modify nn).attrs).1)
  have HFM := Lib.hid (fmodify_is nn HS1.out HOK.out)
  have HRM := Lib.hid (fun W (h' : RAt W q h X) => rmodify_is nn h' HOK.out)
  have HNM := Lib.hid (unmod_none HO1.out)
  obtain ⟨b, hb⟩ : ∃ b, decide (0 ≤ X.start nn) = b := ⟨_, rfl⟩
  rw [hb] at HFM HRM
  clear hb
  obtain ⟨X1, hX1⟩ : ∃ X1, X.modify nn = X1 := ⟨_, rfl⟩
  rw [hX1] at HFM HRM HO1 HO2 HNM
  obtain ⟨X2, hX2⟩ : ∃ X2, X1.unmodify = X2 := ⟨_, rfl⟩
  have HX2 := Lib.hid hX2
  have HO2' : Hid X2.Ok := Lib.hid (by rw [← HX2.out]; exact HO2.out)
  rw [hX2] at HNM
  clear hX1 hX2 HO2
  have HML := Lib.hid (modified_len HO1.out)
  have ebb : (b != b) = false := by cases b <;> rfl
  go_wp2_with fail
  refine HFM.out.mono ?_
  rintro e w2 ⟨rfl, hs2, hk2⟩
  have HS2 := Lib.hid hs2
  have HK2 := Lib.hid (show Up w w2 from HU1.out.keep hk2 (fun k hk => HNE.out.2 k (.inl hk)))
  have HR2 := Lib.hid (HR1.out.held hk2 HNE.out.1.1 HNE.out.1.2.1)
  clear hs2 hk2
  go_wp2_with fail
  refine (HRM.out _ HR2.out).mono ?_
  rintro e w3 ⟨rfl, hr3, hk3⟩
  have HR3 := Lib.hid hr3
  have HK3 := Lib.hid (show Up w w3 from HK2.out.keep hk3 (fun k hk => HNE.out.2 k (.inr hk)))
  have HS3 := Lib.hid (HS2.out.held hk3 HNE.out.1.2.2.1 HNE.out.1.2.2.2)
  clear hr3 hk3
  cases b
  all_goals
    go_wp2_with fail
    refine (same13_is HS3.out HR3.out HO1.out).mono ?_
    rintro e w4 ⟨rfl, hu4⟩
    have HU4 := Lib.hid hu4
    clear hu4
    go_wp2_with fail
    refine (modified_val13 _ _).mono ?_
    rintro e w5 ⟨bm, rfl, hb1, hb2, hb3, -, hu5⟩
    have HU5 := Lib.hid (HU4.out.trans hu5)
    clear hu5 hb1 hb2
    go_wp2_with fail
    refine (collect_modified (HS3.out.up HU5.out) HO1.out hb3).mono ?_
    rintro e w6 ⟨A1, c1, rfl, ho1, hu6⟩
    have HU6 := Lib.hid (HU5.out.trans hu6)
    have HOA := Lib.hid ho1
    clear hu6 ho1 hb3
    go_wp2_with fail
    refine (rmodified_is (HR3.out.up HU6.out) HO1.out).mono ?_
    rintro e w7 ⟨A2, c2, rfl, ho2, hu7⟩
    have HOB := Lib.hid ho2
    have HOA2 := Lib.hid (HOA.out.up hu7)
    have HU7 := Lib.hid (HU6.out.trans hu7)
    clear hu7 ho2
    go_wp2_with fail
    refine (equal_own HOA2.out HOB.out HML.out).mono ?_
    rintro e w8 ⟨rfl, hu8⟩
    have HU8 := Lib.hid (HU7.out.trans hu8)
    clear hu8
    go_wp2_with fail
    refine (funmodify_is (HS3.out.up HU8.out) HO1.out).mono ?_
    rintro e w9 ⟨rfl, hs9, hk9⟩
    rw [HX2.out] at hs9
    have HS9 := Lib.hid hs9
    have HR9 := Lib.hid ((HR3.out.up HU8.out).held hk9 HNE.out.1.1 HNE.out.1.2.1)
    have HK9 := Lib.hid (show Up w w9 from (HK3.out.trans HU8.out).keep hk9 (fun k hk => HNE.out.2 k (.inl hk)))
    clear hs9 hk9
    go_wp2_with fail
    refine (runmodify_is HR9.out HO1.out).mono ?_
    rintro e w10 ⟨rfl, hr10, hk10⟩
    rw [HX2.out] at hr10
    have HR10 := Lib.hid hr10
    have HS10 := Lib.hid (HS9.out.held hk10 HNE.out.1.2.2.1 HNE.out.1.2.2.2)
    have HK10 := Lib.hid (show Up w w10 from HK9.out.keep hk10 (fun k hk => HNE.out.2 k (.inr hk)))
    clear hr10 hk10
    go_wp2_with fail
    refine (same13_is HS10.out HR10.out HO2'.out).mono ?_
    rintro e w11 ⟨rfl, hu11⟩
    have HU11 := Lib.hid hu11
    clear hu11
    go_wp2_with fail
    refine (modified_val13 _ _).mono ?_
    rintro e w12 ⟨bn, rfl, hb1, hb2, hb3, -, hu12⟩
    have HU12 := Lib.hid (HU11.out.trans hu12)
    clear hu12 hb1 hb2
    go_wp2_with fail
    refine (collect_modified (HS10.out.up HU12.out) HO2'.out hb3).mono ?_
    rintro e w13 ⟨A3, c3, rfl, ho3, hu13⟩
    rw [HNM.out]
    have HU13 := Lib.hid (HU12.out.trans hu13)
    clear hu13 ho3 hb3
    go_wp2_with fail
    go_ret
    exact ⟨rfl, HK10.out.trans HU13.out⟩
end Go.Proofs.Ytjokcfenncogkaa
