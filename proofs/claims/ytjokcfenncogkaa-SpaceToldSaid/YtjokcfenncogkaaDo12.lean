/-
  What the law's do does to a screen and the document's: they stay alike. No condition but the text's own place.
-/
import Derived.Test.YtjokcfenncogkaaRdo
namespace Go.Proofs.Ytjokcfenncogkaa
open Go.RowKit
set_option linter.unusedVariables false
set_option linter.unusedSimpArgs false

/-- a screen and the document's, alike -/
def Pair (B : Nat) (w : World) (p q : Nat) (X : Spc) : Prop :=
  ∃ g h, SAt w p g X ∧ RAt w q h X ∧ (p ≠ q ∧ p ≠ h ∧ g ≠ q ∧ g ≠ h) ∧ (B ≤ p ∧ B ≤ g ∧ B ≤ q ∧ B ≤ h)
theorem Pair.up {B : Nat} {w w' : World} {p q : Nat} {X : Spc} (h : Pair B w p q X) (hu : Up w w') : Pair B w' p q X := by
  obtain ⟨g, h', h1, h2, h3, h4⟩ := h
  exact ⟨g, h', h1.up hu, h2.up hu, h3, h4⟩
theorem Pair.low {B B' : Nat} {w : World} {p q : Nat} {X : Spc} (h : Pair B w p q X) (hB : B' ≤ B) : Pair B' w p q X := by
  obtain ⟨g, h', h1, h2, h3, h4⟩ := h
  exact ⟨g, h', h1, h2, h3, by omega⟩
theorem below_keep {B : Nat} {w w' : World} {E : Nat → Prop} (h : Keep E w w') (hB : B ≤ w.heap.size) (he : ∀ k, E k → B ≤ k) : Below B w w' :=
  ⟨h.os, h.tape, h.output, h.size, fun k hk => h.block k (by omega) (fun e => by have := he k e; omega)⟩
theorem below_up {B : Nat} {w w' : World} (h : Up w w') (hB : B ≤ w.heap.size) : Below B w w' := h.mono hB
/-- the program's changes: then the reference does the same -/
theorem Pair.of {B : Nat} {w' : World} {p q g h : Nat} {X : Spc} (hs : SAt w' p g X) (hr : RAt w' q h X) (h1 : p ≠ q ∧ p ≠ h ∧ g ≠ q ∧ g ≠ h) (h2 : B ≤ p ∧ B ≤ g ∧ B ≤ q ∧ B ≤ h) : Pair B w' p q X := ⟨g, h, hs, hr, h1, h2⟩

/-- the four blocks of two spaces -/
def four (p g q h : Nat) (k : Nat) : Prop := k = p ∨ k = g ∨ k = q ∨ k = h
set_option maxRecDepth 100000 in
set_option maxHeartbeats 12800000 in
theorem do12_k {p q g h B : Nat} {X : Spc} {w : World} (a : Act12) (A : Option Addr) (cap : Nat) (hw : a.Wf) (hs : SAt w p g X) (hr : RAt w q h X) (hne : p ≠ q ∧ p ≠ h ∧ g ≠ q ∧ g ≠ h) (hbb : B ≤ p ∧ B ≤ g ∧ B ≤ q ∧ B ≤ h) (ok : X.Ok) (ht : Reads w B 1 A a.text.length (bs a.text)) (hBw : B ≤ w.heap.size) (hn : a.text.length ≤ cap) (hm : cap ≤ maxLen) :
    Calls Try.prog 24 #[.pointer (some ⟨p, 0, none⟩), .pointer (some ⟨q, 0, none⟩), actV a A cap] w fun e w' => e = .returned (.tuple #[]) ∧ Pair B w' p q (X.act a) ∧ Keep (four p g q h) w w' := by
  obtain ⟨n1, n2, n3, n4⟩ := hne
  obtain ⟨b1, b2, b3, b4⟩ := hbb
  have HS := Lib.hid hs
  have HR := Lib.hid hr
  have HO := Lib.hid ok
  have HT := Lib.hid ht
  have HW := Lib.hid hw
  have HD := Lib.hid (fun (W : World) (Y : Spc) (hz : B ≤ W.heap.size) (hY : X = Y) (hr : RAt W q h Y) (ht : Reads W B 1 A a.text.length (bs a.text)) => rdo_is (B := B) (q := q) (h := h) (X := Y) (w := W) a A cap hw hr (hY ▸ ok) ht b3 b4 hz hn hm)
  have HNE := Lib.hid (show (p ≠ q ∧ p ≠ h ∧ g ≠ q ∧ g ≠ h) ∧ (B ≤ p ∧ B ≤ g ∧ B ≤ q ∧ B ≤ h) from ⟨⟨n1, n2, n3, n4⟩, b1, b2, b3, b4⟩)
  have HA := Lib.hid (show X.act a = if a.d % 6 = 0 then X.clear a.on else if a.d % 6 = 1 then X.place a.n else if a.d % 6 = 2 then X.put a.n a.code else if a.d % 6 = 3 then X.set a.n ⟨0, true, a.code, 0, 0, 0⟩ else if a.d % 6 = 4 then X.set a.n a.c else textTo X a.n a.text a.text.length from rfl)
  obtain ⟨Y, hY⟩ : ∃ Y, X.act a = Y := ⟨_, rfl⟩
  have HYO := Lib.hid hY
  rw [hY] at HA ⊢
  clear hY
  obtain ⟨d, n, on, code, c, text⟩ := a
  have hd := hw.d
  have hcode := Lib.hid hw.code
  have hc := Lib.hid hw.c
  have htx := Lib.hid hw.text
  obtain ⟨tn, htn⟩ : ∃ tn, text.length = tn := ⟨_, rfl⟩
  have HTN := Lib.hid htn
  simp only at hn htn hd hcode hc htx HA
  rw [htn] at hn
  have hmd : 0 ≤ d % 6 ∧ d % 6 < 6 := by omega
  have hcp : (cap : Int) ≤ 9223372036854775807 := by simp [maxLen] at hm; omega
  have hd0 := hd.1
  have hd1 := hd.2
  unfold actV
  unfold actV at HD
  simp only at HD HT ⊢
  rw [htn] at HD HT ⊢
  obtain ⟨e6, he6⟩ : ∃ e6, d % 6 = e6 := ⟨_, rfl⟩
  rw [he6] at hmd HA
  obtain ⟨ch, at_, fa, hi, co, se⟩ := c
  have zp := hs.lt
  have zg := hs.cells.2.1
  have zq := hr.lt
  have zh := hr.cells.2.1
  clear hr hs ok ht hw hd htn HW
  rcases (show e6 = 0 ∨ e6 = 1 ∨ e6 = 2 ∨ e6 = 3 ∨ e6 = 4 ∨ e6 = 5 by omega) with rfl | rfl | rfl | rfl | rfl | rfl
  all_goals
    (first | have E0 : (d % 6 == 0) = true := by rw [he6]; decide | have E0 : (d % 6 == 0) = false := by rw [he6]; decide)
    (first | have E1 : (d % 6 == 1) = true := by rw [he6]; decide | have E1 : (d % 6 == 1) = false := by rw [he6]; decide)
    (first | have E2 : (d % 6 == 2) = true := by rw [he6]; decide | have E2 : (d % 6 == 2) = false := by rw [he6]; decide)
    (first | have E3 : (d % 6 == 3) = true := by rw [he6]; decide | have E3 : (d % 6 == 3) = false := by rw [he6]; decide)
    (first | have E4 : (d % 6 == 4) = true := by rw [he6]; decide | have E4 : (d % 6 == 4) = false := by rw [he6]; decide)
    clear he6 hmd n1 n2 n3 n4 b1 b2 b3 b4
  · go_enter Try.func24, Try.ntmps24
    go_wp2_with fail
    refine (sclear_is on (HS.out.up (by (repeat (first | with_reducible exact Up.refl _ | with_reducible refine Up.alloc ?_ _ | with_reducible refine Up.drew ?_ | with_reducible refine Up.drewN ?_ _ | with_reducible refine Up.setCell ?_ (by (try simp) <;> omega) _ | with_reducible assumption | with_reducible refine Up.trans ?_ (by assumption))))) HO.out).mono ?_
    rintro e w2 ⟨rfl, g2, hg2, hs2, hk2⟩
    have HS2 := Lib.hid (show SAt w2 p g2 Y by rw [HA.out]; simpa using hs2)
    have HR2 := Lib.hid ((HR.out.up ((Up.refl w).alloc _)).held hk2 (fun e => by have := HNE.out; (try simp only [two] at e) <;> omega) (fun e => by have := HNE.out; (try simp only [two] at e) <;> omega))
    have HK2 := Lib.hid (show Keep (four p g q h) w w2 from (Keep.of_up ((Up.refl w).alloc _)).trans (hk2.mono fun k hk => by (try simp only [two] at hk) <;> simp only [four] <;> omega))
    have HB2 := Lib.hid (show Below B w w2 from (below_up ((Up.refl w).alloc _) hBw).trans (below_keep hk2 (by simp; omega) (fun k hk => by have := HNE.out; (try simp only [two] at hk) <;> omega)))
    have HG2 := Lib.hid (show g2 ≠ q ∧ g2 ≠ h ∧ B ≤ g2 by have := HNE.out; (try simp at hg2); omega)
    have hz2 := hk2.size
    simp at hz2
    have cb : ∀ o, w2.cell? ⟨w.heap.size, o, none⟩ = (w.alloc (.cells #[.int .u8 d, .int .i64 n, .bool on, .int .u8 code, .int .u8 ch, .bool at_, .int .u8 fa, .int .u8 hi, .int .u8 co, .int .u8 se, .slice A tn cap] 35)).cell? ⟨w.heap.size, o, none⟩ := (hk2.at_ w.heap.size (by simp) (fun e => by (try simp only [two] at e) <;> omega)).1
    clear hs2 hk2
    go_wp2_with fail
    refine (HD.out _ X (by omega) rfl HR2.out (HT.out.below HB2.out)).mono ?_
    rintro e w3 ⟨rfl, h3, hr3, hk3, hh3⟩
    have HS3 := Lib.hid (HS2.out.held hk3 (fun e => by have := HNE.out; (try simp only [two] at e) <;> omega) (fun e => by have h1 := HNE.out; have h2 := HG2.out; (try simp only [two] at e) <;> omega))
    have HR3 := Lib.hid hr3
    have HB3 := Lib.hid (HK2.out.trans (hk3.mono fun k hk => by (try simp only [two] at hk) <;> simp only [four] <;> omega))
    have HH3 := Lib.hid (show p ≠ h3 ∧ g2 ≠ h3 ∧ B ≤ h3 by have h1 := HNE.out; have h2 := HG2.out; have h3 := HS2.out.lt; have h4 := HS2.out.cells.2.1; rcases hh3 with hh3 | hh3 <;> omega)
    clear hr3 hk3 hh3
    go_wp2_with fail
    go_end0
    have h1 := HNE.out
    have h2 := HG2.out
    have h3 := HH3.out
    exact ⟨rfl, Pair.of HS3.out (by rw [← HYO.out]; exact HR3.out) ⟨h1.1.1, h3.1, h2.1, h3.2.1⟩ ⟨h1.2.1, h2.2.2, h1.2.2.2.1, h3.2.2⟩, HB3.out⟩
  · go_enter Try.func24, Try.ntmps24
    go_wp2_with fail
    refine (splace_is n (HS.out.up (by (repeat (first | with_reducible exact Up.refl _ | with_reducible refine Up.alloc ?_ _ | with_reducible refine Up.drew ?_ | with_reducible refine Up.drewN ?_ _ | with_reducible refine Up.setCell ?_ (by (try simp) <;> omega) _ | with_reducible assumption | with_reducible refine Up.trans ?_ (by assumption))))) HO.out).mono ?_
    rintro e w2 ⟨rfl, hs2, hk2⟩
    have HS2 := Lib.hid (show SAt w2 p g Y by rw [HA.out]; simpa using hs2)
    have HR2 := Lib.hid ((HR.out.up ((Up.refl w).alloc _)).held hk2 (fun e => by have := HNE.out; (try simp only [two] at e) <;> omega) (fun e => by have := HNE.out; (try simp only [two] at e) <;> omega))
    have HK2 := Lib.hid (show Keep (four p g q h) w w2 from (Keep.of_up ((Up.refl w).alloc _)).trans (hk2.mono fun k hk => by (try simp only [two] at hk) <;> simp only [four] <;> omega))
    have HB2 := Lib.hid (show Below B w w2 from (below_up ((Up.refl w).alloc _) hBw).trans (below_keep hk2 (by simp; omega) (fun k hk => by have := HNE.out; (try simp only [two] at hk) <;> omega)))
    have HG2 := Lib.hid (show g ≠ q ∧ g ≠ h ∧ B ≤ g by have := HNE.out; (try simp at hg2); omega)
    have hz2 := hk2.size
    simp at hz2
    have cb : ∀ o, w2.cell? ⟨w.heap.size, o, none⟩ = (w.alloc (.cells #[.int .u8 d, .int .i64 n, .bool on, .int .u8 code, .int .u8 ch, .bool at_, .int .u8 fa, .int .u8 hi, .int .u8 co, .int .u8 se, .slice A tn cap] 35)).cell? ⟨w.heap.size, o, none⟩ := (hk2.at_ w.heap.size (by simp) (fun e => by (try simp only [two] at e) <;> omega)).1
    clear hs2 hk2
    go_wp2_with fail
    refine (HD.out _ X (by omega) rfl HR2.out (HT.out.below HB2.out)).mono ?_
    rintro e w3 ⟨rfl, h3, hr3, hk3, hh3⟩
    have HS3 := Lib.hid (HS2.out.held hk3 (fun e => by have := HNE.out; (try simp only [two] at e) <;> omega) (fun e => by have h1 := HNE.out; have h2 := HG2.out; (try simp only [two] at e) <;> omega))
    have HR3 := Lib.hid hr3
    have HB3 := Lib.hid (HK2.out.trans (hk3.mono fun k hk => by (try simp only [two] at hk) <;> simp only [four] <;> omega))
    have HH3 := Lib.hid (show p ≠ h3 ∧ g ≠ h3 ∧ B ≤ h3 by have h1 := HNE.out; have h2 := HG2.out; have h3 := HS2.out.lt; have h4 := HS2.out.cells.2.1; rcases hh3 with hh3 | hh3 <;> omega)
    clear hr3 hk3 hh3
    go_wp2_with fail
    go_end0
    have h1 := HNE.out
    have h2 := HG2.out
    have h3 := HH3.out
    exact ⟨rfl, Pair.of HS3.out (by rw [← HYO.out]; exact HR3.out) ⟨h1.1.1, h3.1, h2.1, h3.2.1⟩ ⟨h1.2.1, h2.2.2, h1.2.2.2.1, h3.2.2⟩, HB3.out⟩
  · go_enter Try.func24, Try.ntmps24
    go_wp2_with fail
    refine (sput_is n code (HS.out.up (by (repeat (first | with_reducible exact Up.refl _ | with_reducible refine Up.alloc ?_ _ | with_reducible refine Up.drew ?_ | with_reducible refine Up.drewN ?_ _ | with_reducible refine Up.setCell ?_ (by (try simp) <;> omega) _ | with_reducible assumption | with_reducible refine Up.trans ?_ (by assumption))))) HO.out).mono ?_
    rintro e w2 ⟨rfl, hs2, hk2⟩
    have HS2 := Lib.hid (show SAt w2 p g Y by rw [HA.out]; simpa using hs2)
    have HR2 := Lib.hid ((HR.out.up ((Up.refl w).alloc _)).held hk2 (fun e => by have := HNE.out; (try simp only [two] at e) <;> omega) (fun e => by have := HNE.out; (try simp only [two] at e) <;> omega))
    have HK2 := Lib.hid (show Keep (four p g q h) w w2 from (Keep.of_up ((Up.refl w).alloc _)).trans (hk2.mono fun k hk => by (try simp only [two] at hk) <;> simp only [four] <;> omega))
    have HB2 := Lib.hid (show Below B w w2 from (below_up ((Up.refl w).alloc _) hBw).trans (below_keep hk2 (by simp; omega) (fun k hk => by have := HNE.out; (try simp only [two] at hk) <;> omega)))
    have HG2 := Lib.hid (show g ≠ q ∧ g ≠ h ∧ B ≤ g by have := HNE.out; (try simp at hg2); omega)
    have hz2 := hk2.size
    simp at hz2
    have cb : ∀ o, w2.cell? ⟨w.heap.size, o, none⟩ = (w.alloc (.cells #[.int .u8 d, .int .i64 n, .bool on, .int .u8 code, .int .u8 ch, .bool at_, .int .u8 fa, .int .u8 hi, .int .u8 co, .int .u8 se, .slice A tn cap] 35)).cell? ⟨w.heap.size, o, none⟩ := (hk2.at_ w.heap.size (by simp) (fun e => by (try simp only [two] at e) <;> omega)).1
    clear hs2 hk2
    go_wp2_with fail
    refine (HD.out _ X (by omega) rfl HR2.out (HT.out.below HB2.out)).mono ?_
    rintro e w3 ⟨rfl, h3, hr3, hk3, hh3⟩
    have HS3 := Lib.hid (HS2.out.held hk3 (fun e => by have := HNE.out; (try simp only [two] at e) <;> omega) (fun e => by have h1 := HNE.out; have h2 := HG2.out; (try simp only [two] at e) <;> omega))
    have HR3 := Lib.hid hr3
    have HB3 := Lib.hid (HK2.out.trans (hk3.mono fun k hk => by (try simp only [two] at hk) <;> simp only [four] <;> omega))
    have HH3 := Lib.hid (show p ≠ h3 ∧ g ≠ h3 ∧ B ≤ h3 by have h1 := HNE.out; have h2 := HG2.out; have h3 := HS2.out.lt; have h4 := HS2.out.cells.2.1; rcases hh3 with hh3 | hh3 <;> omega)
    clear hr3 hk3 hh3
    go_wp2_with fail
    go_end0
    have h1 := HNE.out
    have h2 := HG2.out
    have h3 := HH3.out
    exact ⟨rfl, Pair.of HS3.out (by rw [← HYO.out]; exact HR3.out) ⟨h1.1.1, h3.1, h2.1, h3.2.1⟩ ⟨h1.2.1, h2.2.2, h1.2.2.2.1, h3.2.2⟩, HB3.out⟩
  · go_enter Try.func24, Try.ntmps24
    go_wp2_with fail
    refine (sset_is n ⟨0, true, code, 0, 0, 0⟩ (by have := hcode.out; exact ⟨by simp [isB], this, by simp [isB], by simp [isB], by simp [isB]⟩) (HS.out.up (by (repeat (first | with_reducible exact Up.refl _ | with_reducible refine Up.alloc ?_ _ | with_reducible refine Up.drew ?_ | with_reducible refine Up.drewN ?_ _ | with_reducible refine Up.setCell ?_ (by (try simp) <;> omega) _ | with_reducible assumption | with_reducible refine Up.trans ?_ (by assumption))))) HO.out).mono ?_
    rintro e w2 ⟨rfl, hs2, hk2⟩
    have HS2 := Lib.hid (show SAt w2 p g Y by rw [HA.out]; simpa using hs2)
    have HR2 := Lib.hid ((HR.out.up ((Up.refl w).alloc _)).held hk2 (fun e => by have := HNE.out; (try simp only [two] at e) <;> omega) (fun e => by have := HNE.out; (try simp only [two] at e) <;> omega))
    have HK2 := Lib.hid (show Keep (four p g q h) w w2 from (Keep.of_up ((Up.refl w).alloc _)).trans (hk2.mono fun k hk => by (try simp only [two] at hk) <;> simp only [four] <;> omega))
    have HB2 := Lib.hid (show Below B w w2 from (below_up ((Up.refl w).alloc _) hBw).trans (below_keep hk2 (by simp; omega) (fun k hk => by have := HNE.out; (try simp only [two] at hk) <;> omega)))
    have HG2 := Lib.hid (show g ≠ q ∧ g ≠ h ∧ B ≤ g by have := HNE.out; (try simp at hg2); omega)
    have hz2 := hk2.size
    simp at hz2
    have cb : ∀ o, w2.cell? ⟨w.heap.size, o, none⟩ = (w.alloc (.cells #[.int .u8 d, .int .i64 n, .bool on, .int .u8 code, .int .u8 ch, .bool at_, .int .u8 fa, .int .u8 hi, .int .u8 co, .int .u8 se, .slice A tn cap] 35)).cell? ⟨w.heap.size, o, none⟩ := (hk2.at_ w.heap.size (by simp) (fun e => by (try simp only [two] at e) <;> omega)).1
    clear hs2 hk2
    go_wp2_with fail
    refine (HD.out _ X (by omega) rfl HR2.out (HT.out.below HB2.out)).mono ?_
    rintro e w3 ⟨rfl, h3, hr3, hk3, hh3⟩
    have HS3 := Lib.hid (HS2.out.held hk3 (fun e => by have := HNE.out; (try simp only [two] at e) <;> omega) (fun e => by have h1 := HNE.out; have h2 := HG2.out; (try simp only [two] at e) <;> omega))
    have HR3 := Lib.hid hr3
    have HB3 := Lib.hid (HK2.out.trans (hk3.mono fun k hk => by (try simp only [two] at hk) <;> simp only [four] <;> omega))
    have HH3 := Lib.hid (show p ≠ h3 ∧ g ≠ h3 ∧ B ≤ h3 by have h1 := HNE.out; have h2 := HG2.out; have h3 := HS2.out.lt; have h4 := HS2.out.cells.2.1; rcases hh3 with hh3 | hh3 <;> omega)
    clear hr3 hk3 hh3
    go_wp2_with fail
    go_end0
    have h1 := HNE.out
    have h2 := HG2.out
    have h3 := HH3.out
    exact ⟨rfl, Pair.of HS3.out (by rw [← HYO.out]; exact HR3.out) ⟨h1.1.1, h3.1, h2.1, h3.2.1⟩ ⟨h1.2.1, h2.2.2, h1.2.2.2.1, h3.2.2⟩, HB3.out⟩
  · go_enter Try.func24, Try.ntmps24
    go_wp2_with fail
    refine (sset_is n ⟨ch, at_, fa, hi, co, se⟩ hc.out (HS.out.up (by (repeat (first | with_reducible exact Up.refl _ | with_reducible refine Up.alloc ?_ _ | with_reducible refine Up.drew ?_ | with_reducible refine Up.drewN ?_ _ | with_reducible refine Up.setCell ?_ (by (try simp) <;> omega) _ | with_reducible assumption | with_reducible refine Up.trans ?_ (by assumption))))) HO.out).mono ?_
    rintro e w2 ⟨rfl, hs2, hk2⟩
    have HS2 := Lib.hid (show SAt w2 p g Y by rw [HA.out]; simpa using hs2)
    have HR2 := Lib.hid ((HR.out.up ((Up.refl w).alloc _)).held hk2 (fun e => by have := HNE.out; (try simp only [two] at e) <;> omega) (fun e => by have := HNE.out; (try simp only [two] at e) <;> omega))
    have HK2 := Lib.hid (show Keep (four p g q h) w w2 from (Keep.of_up ((Up.refl w).alloc _)).trans (hk2.mono fun k hk => by (try simp only [two] at hk) <;> simp only [four] <;> omega))
    have HB2 := Lib.hid (show Below B w w2 from (below_up ((Up.refl w).alloc _) hBw).trans (below_keep hk2 (by simp; omega) (fun k hk => by have := HNE.out; (try simp only [two] at hk) <;> omega)))
    have HG2 := Lib.hid (show g ≠ q ∧ g ≠ h ∧ B ≤ g by have := HNE.out; (try simp at hg2); omega)
    have hz2 := hk2.size
    simp at hz2
    have cb : ∀ o, w2.cell? ⟨w.heap.size, o, none⟩ = (w.alloc (.cells #[.int .u8 d, .int .i64 n, .bool on, .int .u8 code, .int .u8 ch, .bool at_, .int .u8 fa, .int .u8 hi, .int .u8 co, .int .u8 se, .slice A tn cap] 35)).cell? ⟨w.heap.size, o, none⟩ := (hk2.at_ w.heap.size (by simp) (fun e => by (try simp only [two] at e) <;> omega)).1
    clear hs2 hk2
    go_wp2_with fail
    refine (HD.out _ X (by omega) rfl HR2.out (HT.out.below HB2.out)).mono ?_
    rintro e w3 ⟨rfl, h3, hr3, hk3, hh3⟩
    have HS3 := Lib.hid (HS2.out.held hk3 (fun e => by have := HNE.out; (try simp only [two] at e) <;> omega) (fun e => by have h1 := HNE.out; have h2 := HG2.out; (try simp only [two] at e) <;> omega))
    have HR3 := Lib.hid hr3
    have HB3 := Lib.hid (HK2.out.trans (hk3.mono fun k hk => by (try simp only [two] at hk) <;> simp only [four] <;> omega))
    have HH3 := Lib.hid (show p ≠ h3 ∧ g ≠ h3 ∧ B ≤ h3 by have h1 := HNE.out; have h2 := HG2.out; have h3 := HS2.out.lt; have h4 := HS2.out.cells.2.1; rcases hh3 with hh3 | hh3 <;> omega)
    clear hr3 hk3 hh3
    go_wp2_with fail
    go_end0
    have h1 := HNE.out
    have h2 := HG2.out
    have h3 := HH3.out
    exact ⟨rfl, Pair.of HS3.out (by rw [← HYO.out]; exact HR3.out) ⟨h1.1.1, h3.1, h2.1, h3.2.1⟩ ⟨h1.2.1, h2.2.2, h1.2.2.2.1, h3.2.2⟩, HB3.out⟩
  · go_enter Try.func24, Try.ntmps24
    go_wp2_with fail
    obtain ⟨wb, hwb⟩ : ∃ wb, wb = (w.alloc (.cells #[.int .u8 d, .int .i64 n, .bool on, .int .u8 code, .int .u8 ch, .bool at_, .int .u8 fa, .int .u8 hi, .int .u8 co, .int .u8 se, .slice A tn cap] 35)) := ⟨_, rfl⟩
    rw [← hwb]
    have HUB := Lib.hid (show Up w wb by rw [hwb]; exact (Up.refl w).alloc _)
    have hbz : wb.heap.size = w.heap.size + 1 := by rw [hwb]; simp
    have HBX := Lib.hid (show ∀ o, wb.cell? ⟨w.heap.size, o, none⟩ = (w.alloc (.cells #[.int .u8 d, .int .i64 n, .bool on, .int .u8 code, .int .u8 ch, .bool at_, .int .u8 fa, .int .u8 hi, .int .u8 co, .int .u8 se, .slice A tn cap] 35)).cell? ⟨w.heap.size, o, none⟩ from fun o => by rw [hwb])
    have b1 : wb.cell? ⟨w.heap.size, 1, none⟩ = some (.int .i64 n) := by rw [hwb]; simp [go_sem]
    have HZB := Lib.hid hbz
    clear hwb hbz
    go_loopw [14] (fun i wr => ∃ j : Nat, j ≤ tn ∧ i = .int .i64 (j : Int) ∧ SAt wr p g (textTo X n text j) ∧ Keep (two p g) wb wr) (fun i _ => tn - (intOf i).toNat)
    case atStart => exact ⟨0, by omega, rfl, HS.out.up HUB.out, Keep.refl _ _⟩
    case round =>
      obtain ⟨j, hj, rfl, hrj, hkj⟩ := hrel
      have HRJ := Lib.hid hrj
      have HKJ := Lib.hid hkj
      have hzz := hkj.size
      have HOJ := Lib.hid (textTo_ok HO.out n htx.out j)
      clear hrj
      by_cases hlt : j < tn
      · have b1' : wr.cell? ⟨w.heap.size, 1, none⟩ = some (.int .i64 n) := ((hkj.at_ w.heap.size (by have := HZB.out; omega) (fun e => by rcases e with e | e <;> omega)).1 1).trans b1
        have htr : Reads wr B 1 A tn (bs text) := HT.out.keep fun p' hp' => (World.cell?_of_block (hkj.block p'.block (by have := HZB.out; omega) (fun e => by have := HNE.out; rcases e with e | e <;> omega))).trans (World.cell?_of_block (HUB.out.block p'.block (by omega)))
        obtain ⟨b, off, rfl, hb⟩ := htr.form (by omega)
        obtain ⟨hbB, u, hu1, hu2⟩ := htr.at_ (j := j) (by omega)
        have hx : u = .int .u8 (text.getD j 0) := by
          have hl : j < text.length := by have := HTN.out; omega
          rw [bs, List.getElem?_map, List.getElem?_eq_getElem hl] at hu1
          rw [List.getD, List.getElem?_eq_getElem hl]
          exact (Option.some.inj hu1).symm
        subst hx
        have HX := Lib.hid (show textTo X n text (j + 1) = if j < 200 then (textTo X n text j).put ((X.wrap n : Int) + (j : Int)) (text.getD j 0) else textTo X n text j from rfl)
        obtain ⟨x, hxx⟩ : ∃ x, text.getD j 0 = x := ⟨_, rfl⟩
        rw [hxx] at hu2 HX
        have hjn : (j : Int) < (tn : Int) := by omega
        have HWR := Lib.hid (textTo_wrap X n text n j)
        have hwl := (HO.out.wrap n).2
        have hsm := HO.out.small
        obtain ⟨k, hk⟩ : ∃ k, X.wrap n = k := ⟨_, rfl⟩
        rw [hk] at HX HWR hwl
        have hkb : k ≤ 3564 := by omega
        have zb : b < wr.heap.size := by have := HZB.out; omega
        have zb0 : w.heap.size < wr.heap.size := by have := HZB.out; omega
        clear hkj htr hu1 hxx hk hwl
        generalize textTo X n text j = Z at *
        have HW1 := Lib.hid (show n % (Z.r * Z.c) = (k : Int) by have := (HOJ.out.wrap n).1; rw [HWR.out] at this; exact this)
        have HV := Lib.hid HOJ.out.valid
        have k2 := HRJ.out.h2
        have k3 := HRJ.out.h3
        have zpr := HRJ.out.lt
        by_cases h200 : j < 200
        · rw [if_pos h200] at HX
          have h200' : (j : Int) < 200 := by omega
          go_wp2_with fail
          refine wp_region_mixT 9 (NS := []) [] rfl (by kernel_rfl) (by kernel_rfl) (by simp) (by simp) ?_
          simp only [List.take_succ_cons, List.take_zero, List.drop_succ_cons, List.drop_zero]
          repeat (first
            | (refine mix_skip rfl rfl ?_; simp only [Act.put, List.setIfInBounds_toArray, List.set_cons_succ, List.set_cons_zero])
            | (refine mix_q rfl rfl rfl (by kernel_rfl) rfl rfl rfl ?_
               apply Exists.intro
               refine ⟨fun Wm => ?_, ?_⟩
               · simp only [fin]
                 skip
                 intro K hK
                 go_wp2_with ((first | (go_at_call 25; (with_reducible refine (ssize_is (HRJ.out.up (up_upOf _ _))).mono ?_); rintro e w' ⟨rfl, hux⟩) | (go_at_call 112; (with_reducible refine (wrap_good _ _ _ _ HV.out).mono ?_); rw [HW1.out]; rintro e w' ⟨rfl, hux⟩)))
                 refine hK _ _ ?_ ?_ ?_
                 · (repeat (first | with_reducible exact Up.refl _ | with_reducible refine Up.alloc ?_ _ | with_reducible refine Up.drew ?_ | with_reducible refine Up.drewN ?_ _ | with_reducible refine Up.setCell ?_ (by (try simp) <;> omega) _ | with_reducible assumption | with_reducible refine Up.trans ?_ (by assumption)))
                 · rfl
                 · exact tmps_at rfl
               simp only [Act.put, List.setIfInBounds_toArray, List.set_cons_succ, List.set_cons_zero]))
          refine mix_nil ?_
          intro w2 hb_w2
          simp only [fin]
          have hu_w2 : Up wr w2 := by (repeat (first | with_reducible exact Up.refl _ | with_reducible refine Up.alloc ?_ _ | with_reducible refine Up.drew ?_ | with_reducible refine Up.drewN ?_ _ | with_reducible refine Up.setCell ?_ (by (try simp) <;> omega) _ | with_reducible assumption | with_reducible refine Up.trans ?_ (by assumption)))
          have hz_w2 := Up.size hb_w2
          try simp at hz_w2
          obtain ⟨bc_w2_0, bf_w2_0⟩ := hu_w2.at_ (w.heap.size) (by omega)
          have zb_w2_0 : w.heap.size < w2.heap.size := by omega
          go_wp2_with fail
          refine (sput_is _ x (HRJ.out.up hb_w2) HOJ.out).mono ?_
          rintro e w3 ⟨rfl, hr3, hk3⟩
          have HR3 := Lib.hid hr3
          have HK3 := Lib.hid ((HKJ.out.up hb_w2).trans hk3)
          clear hr3 hk3
          go_wp2
          go_roundw
          case rel => exact ⟨j + 1, by omega, by go_num, by rw [HX.out]; exact HR3.out, HK3.out⟩
          case measure => simp [intOf]; omega
        · rw [if_neg h200] at HX
          have h200' : ¬ (j : Int) < 200 := by omega
          go_wp2
          go_roundw
          case rel => exact ⟨j + 1, by omega, by go_num, by rw [HX.out]; exact HRJ.out, HKJ.out⟩
          case measure => simp [intOf]; omega
      · obtain rfl : j = tn := by omega
        have hs2 := HRJ.out
        have hk2 := hkj
        have HS2 := Lib.hid (show SAt wr p g Y by rw [HA.out]; simpa [HTN.out] using hs2)
        have HR2 := Lib.hid ((HR.out.up HUB.out).held hk2 (fun e => by have := HNE.out; (try simp only [two] at e) <;> omega) (fun e => by have := HNE.out; (try simp only [two] at e) <;> omega))
        have HK2 := Lib.hid (show Keep (four p g q h) w wr from (Keep.of_up HUB.out).trans (hk2.mono fun k hk => by (try simp only [two] at hk) <;> simp only [four] <;> omega))
        have HB2 := Lib.hid (show Below B w wr from (below_up HUB.out hBw).trans (below_keep hk2 (by have := HZB.out; omega) (fun k hk => by have := HNE.out; (try simp only [two] at hk) <;> omega)))
        have cb : ∀ o, wr.cell? ⟨w.heap.size, o, none⟩ = (w.alloc (.cells #[.int .u8 d, .int .i64 n, .bool on, .int .u8 code, .int .u8 ch, .bool at_, .int .u8 fa, .int .u8 hi, .int .u8 co, .int .u8 se, .slice A j cap] 35)).cell? ⟨w.heap.size, o, none⟩ := fun o => ((hk2.at_ w.heap.size (by have := HZB.out; omega) (fun e => by (try simp only [two] at e) <;> omega)).1 o).trans (HBX.out o)
        have hzr : w.heap.size < wr.heap.size := by have := HZB.out; omega
        clear hs2 hk2 hkj b1
        go_wp2_with fail
        refine (HD.out _ X (by omega) rfl HR2.out (HT.out.below HB2.out)).mono ?_
        rintro e w3 ⟨rfl, h3, hr3, hk3, hh3⟩
        have HS3 := Lib.hid (HS2.out.held hk3 (fun e => by have := HNE.out; (try simp only [two] at e) <;> omega) (fun e => by have h1 := HNE.out; (try simp only [two] at e) <;> omega))
        have HR3 := Lib.hid hr3
        have HB3 := Lib.hid (HK2.out.trans (hk3.mono fun k hk => by (try simp only [two] at hk) <;> simp only [four] <;> omega))
        have HH3 := Lib.hid (show p ≠ h3 ∧ g ≠ h3 ∧ B ≤ h3 by have h1 := HNE.out; have h3 := HS2.out.lt; have h4 := HS2.out.cells.2.1; rcases hh3 with hh3 | hh3 <;> omega)
        clear hr3 hk3 hh3
        go_wp2_with fail
        go_end0
        have h1 := HNE.out
        have h3 := HH3.out
        exact ⟨rfl, Pair.of HS3.out (by rw [← HYO.out]; exact HR3.out) ⟨h1.1.1, h3.1, h1.1.2.2.1, h3.2.1⟩ ⟨h1.2.1, h1.2.2.1, h1.2.2.2.1, h3.2.2⟩, HB3.out⟩
theorem do12_is {p q B : Nat} {X : Spc} {w : World} (a : Act12) (A : Option Addr) (cap : Nat) (hw : a.Wf) (hp : Pair B w p q X) (ok : X.Ok) (ht : Reads w B 1 A a.text.length (bs a.text)) (hBw : B ≤ w.heap.size) (hn : a.text.length ≤ cap) (hm : cap ≤ maxLen) :
    Calls Try.prog 24 #[.pointer (some ⟨p, 0, none⟩), .pointer (some ⟨q, 0, none⟩), actV a A cap] w fun e w' => e = .returned (.tuple #[]) ∧ Pair B w' p q (X.act a) ∧ Below B w w' := by
  obtain ⟨g, h, hs, hr, hne, hbb⟩ := hp
  refine (do12_k a A cap hw hs hr hne hbb ok ht hBw hn hm).mono ?_
  rintro e w' ⟨rfl, h1, h2⟩
  exact ⟨rfl, h1, below_keep h2 hBw (fun k hk => by simp only [four] at hk; omega)⟩
/-- beside the two, a block that was there stays as it was -/
theorem do12_b {p q B : Nat} {X : Spc} {w : World} {o : Obj} (a : Act12) (A : Option Addr) (cap : Nat) (hw : a.Wf) (hp : Pair B w p q X) (ok : X.Ok) (ht : Reads (w.alloc o) B 1 A a.text.length (bs a.text)) (hBw : B ≤ w.heap.size) (hn : a.text.length ≤ cap) (hm : cap ≤ maxLen) :
    Calls Try.prog 24 #[.pointer (some ⟨p, 0, none⟩), .pointer (some ⟨q, 0, none⟩), actV a A cap] (w.alloc o) fun e w' => e = .returned (.tuple #[]) ∧ Pair B w' p q (X.act a) ∧ Below B w w' ∧ (∀ i, w'.cell? ⟨w.heap.size, i, none⟩ = (w.alloc o).cell? ⟨w.heap.size, i, none⟩) ∧ w.heap.size < w'.heap.size := by
  obtain ⟨g, h, hs, hr, hne, hbb⟩ := hp
  have z1 := hs.lt
  have z2 := hs.cells.2.1
  have z3 := hr.lt
  have z4 := hr.cells.2.1
  have hu := (Up.refl w).alloc o
  refine (do12_k a A cap hw (hs.up hu) (hr.up hu) hne hbb ok ht (by simp; omega) hn hm).mono ?_
  rintro e w' ⟨rfl, h1, h2⟩
  have hz := h2.size
  simp at hz
  exact ⟨rfl, h1, (below_up hu hBw).trans (below_keep h2 (by simp; omega) (fun k hk => by simp only [four] at hk; omega)), (h2.at_ w.heap.size (by simp) (fun e => by simp only [four] at e; omega)).1, by omega⟩
end Go.Proofs.Ytjokcfenncogkaa
