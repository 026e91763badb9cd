/-
  What the reference's Do does. No condition but the text's own place.
-/
import Derived.Test.YtjokcfenncogkaaAct12
namespace Go.Proofs.Ytjokcfenncogkaa
open Go.RowKit
set_option linter.unusedVariables false
set_option linter.unusedSimpArgs false

def actV (a : Act12) (A : Option Addr) (cap : Nat) : Value := .agg #[.int .u8 a.d, .int .i64 a.n, .bool a.on, .int .u8 a.code, .int .u8 a.c.ch, .bool a.c.at_, .int .u8 a.c.fa, .int .u8 a.c.hi, .int .u8 a.c.co, .int .u8 a.c.se, .slice A a.text.length cap]
/-- what a call that changes a space leaves: its cells' block may be a new one -/
def RTo (w w' : World) (q h : Nat) (Y : Spc) : Prop := ∃ h', RAt w' q h' Y ∧ Keep (two q h) w w' ∧ (h' = h ∨ w.heap.size ≤ h')
theorem RTo.of {w w' : World} {q h : Nat} {Y : Spc} (h1 : RAt w' q h Y) (h2 : Keep (two q h) w w') : RTo w w' q h Y := ⟨h, h1, h2, .inl rfl⟩
theorem keep_past {w a b : World} {E : Nat → Prop} (hu : Up w a) (hk : Keep E a b) : Keep E w b := (Keep.of_up hu).trans hk

set_option maxRecDepth 100000 in
set_option maxHeartbeats 6400000 in
theorem rdo_is {q h B : Nat} {X : Spc} {w : World} (a : Act12) (A : Option Addr) (cap : Nat) (hw : a.Wf) (hr : RAt w q h X) (ok : X.Ok) (ht : Reads w B 1 A a.text.length (bs a.text)) (hq : B ≤ q) (hh : B ≤ h) (hBw : B ≤ w.heap.size) (hn : a.text.length ≤ cap) (hm : cap ≤ maxLen) :
    Calls Try.prog 113 #[.pointer (some ⟨q, 0, none⟩), actV a A cap] w fun e w' => e = .returned (.tuple #[]) ∧ RTo w w' q h (X.act a) := by
  have HR := Lib.hid hr
  have HO := Lib.hid ok
  have HT := Lib.hid ht
  have HW := Lib.hid hw
  obtain ⟨d, n, on, code, c, text⟩ := a
  have hd := hw.d
  have hcode := Lib.hid hw.code
  have hc := Lib.hid hw.c
  have htx := Lib.hid hw.text
  obtain ⟨tn, htn⟩ : ∃ tn, text.length = tn := ⟨_, rfl⟩
  have HTN := Lib.hid htn
  simp only at hn htn hd hcode hc htx
  rw [htn] at hn
  have hmd : 0 ≤ d % 6 ∧ d % 6 < 6 := by omega
  have hcp : (cap : Int) ≤ 9223372036854775807 := by simp [maxLen] at hm; omega
  have hd0 := hd.1
  have hd1 := hd.2
  unfold actV Spc.act
  simp only
  rw [htn]
  obtain ⟨e6, he6⟩ : ∃ e6, d % 6 = e6 := ⟨_, rfl⟩
  rw [he6] at hmd
  obtain ⟨ch, at_, fa, hi, co, se⟩ := c
  have zq := hr.lt
  clear hr ok ht hw hd htn HW
  rcases (show e6 = 0 ∨ e6 = 1 ∨ e6 = 2 ∨ e6 = 3 ∨ e6 = 4 ∨ e6 = 5 by omega) with rfl | rfl | rfl | rfl | rfl | rfl
  all_goals
    simp only [he6]
    (first | have E0 : (d % 6 == 0) = true := by rw [he6]; decide | have E0 : (d % 6 == 0) = false := by rw [he6]; decide)
    (first | have E1 : (d % 6 == 1) = true := by rw [he6]; decide | have E1 : (d % 6 == 1) = false := by rw [he6]; decide)
    (first | have E2 : (d % 6 == 2) = true := by rw [he6]; decide | have E2 : (d % 6 == 2) = false := by rw [he6]; decide)
    (first | have E3 : (d % 6 == 3) = true := by rw [he6]; decide | have E3 : (d % 6 == 3) = false := by rw [he6]; decide)
    (first | have E4 : (d % 6 == 4) = true := by rw [he6]; decide | have E4 : (d % 6 == 4) = false := by rw [he6]; decide)
    clear he6 hmd
  · go_enter Try.func113, Try.ntmps113
    go_wp2_with fail
    refine (rclear_is on (HR.out.up (by (repeat (first | with_reducible exact Up.refl _ | with_reducible refine Up.alloc ?_ _ | with_reducible refine Up.drew ?_ | with_reducible refine Up.drewN ?_ _ | with_reducible refine Up.setCell ?_ (by (try simp) <;> omega) _ | with_reducible assumption | with_reducible refine Up.trans ?_ (by assumption))))) HO.out).mono ?_
    rintro e w2 ⟨rfl, g', hg', hr2, hk2⟩
    have HR2 := Lib.hid hr2
    have HK2 := Lib.hid hk2
    simp at hg'
    clear hr2 hk2
    go_wp2_with fail
    go_end0
    exact ⟨rfl, g', HR2.out, keep_past (by (repeat (first | with_reducible exact Up.refl _ | with_reducible refine Up.alloc ?_ _ | with_reducible refine Up.drew ?_ | with_reducible refine Up.drewN ?_ _ | with_reducible refine Up.setCell ?_ (by (try simp) <;> omega) _ | with_reducible assumption | with_reducible refine Up.trans ?_ (by assumption)))) (HK2.out.mono fun k hk => .inl hk), .inr (by omega)⟩
  · go_enter Try.func113, Try.ntmps113
    go_wp2_with fail
    refine (rwrap_is n (HR.out.up (by (repeat (first | with_reducible exact Up.refl _ | with_reducible refine Up.alloc ?_ _ | with_reducible refine Up.drew ?_ | with_reducible refine Up.drewN ?_ _ | with_reducible refine Up.setCell ?_ (by (try simp) <;> omega) _ | with_reducible assumption | with_reducible refine Up.trans ?_ (by assumption))))) HO.out).mono ?_
    rintro e w2 ⟨rfl, hb_w2⟩
    have hu : Up w w2 := by (repeat (first | with_reducible exact Up.refl _ | with_reducible refine Up.alloc ?_ _ | with_reducible refine Up.drew ?_ | with_reducible refine Up.drewN ?_ _ | with_reducible refine Up.setCell ?_ (by (try simp) <;> omega) _ | with_reducible assumption | with_reducible refine Up.trans ?_ (by assumption)))
    have HR2 := Lib.hid (HR.out.up hu)
    have k5 := HR2.out.h5
    have f5 := HR2.out.free 5
    have zq2 := HR2.out.lt
    go_wp2_with fail
    go_end0
    exact ⟨rfl, RTo.of (HR2.out.cur _) (keep_past hu ((Keep.refl _ _).setCell (p := ⟨q, 5, none⟩) (.inl (.inl rfl)) _))⟩
  · go_enter Try.func113, Try.ntmps113
    go_wp2_with fail
    refine (rput_is n code hcode.out (HR.out.up (by (repeat (first | with_reducible exact Up.refl _ | with_reducible refine Up.alloc ?_ _ | with_reducible refine Up.drew ?_ | with_reducible refine Up.drewN ?_ _ | with_reducible refine Up.setCell ?_ (by (try simp) <;> omega) _ | with_reducible assumption | with_reducible refine Up.trans ?_ (by assumption))))) HO.out).mono ?_
    rintro e w2 ⟨rfl, hr2, hk2⟩
    have HR2 := Lib.hid hr2
    have HK2 := Lib.hid hk2
    clear hr2 hk2
    go_wp2_with fail
    go_end0
    exact ⟨rfl, RTo.of HR2.out (keep_past (by (repeat (first | with_reducible exact Up.refl _ | with_reducible refine Up.alloc ?_ _ | with_reducible refine Up.drew ?_ | with_reducible refine Up.drewN ?_ _ | with_reducible refine Up.setCell ?_ (by (try simp) <;> omega) _ | with_reducible assumption | with_reducible refine Up.trans ?_ (by assumption)))) HK2.out)⟩
  · go_enter Try.func113, Try.ntmps113
    go_wp2_with fail
    refine (rset_is n ⟨0, true, code, 0, 0, 0⟩ (by have := hcode.out; exact ⟨by simp [isB], this, by simp [isB], by simp [isB], by simp [isB]⟩) (HR.out.up (by (repeat (first | with_reducible exact Up.refl _ | with_reducible refine Up.alloc ?_ _ | with_reducible refine Up.drew ?_ | with_reducible refine Up.drewN ?_ _ | with_reducible refine Up.setCell ?_ (by (try simp) <;> omega) _ | with_reducible assumption | with_reducible refine Up.trans ?_ (by assumption))))) HO.out).mono ?_
    rintro e w2 ⟨rfl, hr2, hk2⟩
    have HR2 := Lib.hid hr2
    have HK2 := Lib.hid hk2
    clear hr2 hk2
    go_wp2_with fail
    go_end0
    exact ⟨rfl, RTo.of HR2.out (keep_past (by (repeat (first | with_reducible exact Up.refl _ | with_reducible refine Up.alloc ?_ _ | with_reducible refine Up.drew ?_ | with_reducible refine Up.drewN ?_ _ | with_reducible refine Up.setCell ?_ (by (try simp) <;> omega) _ | with_reducible assumption | with_reducible refine Up.trans ?_ (by assumption)))) HK2.out)⟩
  · go_enter Try.func113, Try.ntmps113
    go_wp2_with fail
    refine (rset_is n ⟨ch, at_, fa, hi, co, se⟩ hc.out (HR.out.up (by (repeat (first | with_reducible exact Up.refl _ | with_reducible refine Up.alloc ?_ _ | with_reducible refine Up.drew ?_ | with_reducible refine Up.drewN ?_ _ | with_reducible refine Up.setCell ?_ (by (try simp) <;> omega) _ | with_reducible assumption | with_reducible refine Up.trans ?_ (by assumption))))) HO.out).mono ?_
    rintro e w2 ⟨rfl, hr2, hk2⟩
    have HR2 := Lib.hid hr2
    have HK2 := Lib.hid hk2
    clear hr2 hk2
    go_wp2_with fail
    go_end0
    exact ⟨rfl, RTo.of HR2.out (keep_past (by (repeat (first | with_reducible exact Up.refl _ | with_reducible refine Up.alloc ?_ _ | with_reducible refine Up.drew ?_ | with_reducible refine Up.drewN ?_ _ | with_reducible refine Up.setCell ?_ (by (try simp) <;> omega) _ | with_reducible assumption | with_reducible refine Up.trans ?_ (by assumption)))) HK2.out)⟩
  · go_enter Try.func113, Try.ntmps113
    go_wp2_with fail
    have HT2 := Lib.hid (show Reads w B 1 A tn (bs text) by have := HT.out; rwa [HTN.out] at this)
    obtain ⟨wb, hwb⟩ : ∃ wb, wb = (w.alloc (.cells #[.int .u8 d, .int .i64 n, .bool on, .int .u8 code, .int .u8 ch, .bool at_, .int .u8 fa, .int .u8 hi, .int .u8 co, .int .u8 se, .slice A tn cap] 35)) := ⟨_, rfl⟩
    rw [← hwb]
    have HUB := Lib.hid (show Up w wb by rw [hwb]; exact (Up.refl w).alloc _)
    have hbz : wb.heap.size = w.heap.size + 1 := by rw [hwb]; simp
    have b1 : wb.cell? ⟨w.heap.size, 1, none⟩ = some (.int .i64 n) := by rw [hwb]; simp [go_sem]
    have HZB := Lib.hid hbz
    have HNE := Lib.hid (show w.heap.size ≠ h ∧ w.heap.size ≠ q from ⟨by have := HR.out.cells.2.1; omega, by omega⟩)
    clear hwb hbz HT
    go_loopw [12] (fun i wr => ∃ j : Nat, j ≤ tn ∧ i = .int .i64 (j : Int) ∧ RAt wr q h (textTo X n text j) ∧ Keep (two q h) wb wr) (fun i _ => tn - (intOf i).toNat)
    case atStart => exact ⟨0, by omega, rfl, HR.out.up HUB.out, Keep.refl _ _⟩
    case round =>
      obtain ⟨j, hj, rfl, hrj, hkj⟩ := hrel
      have HRJ := Lib.hid hrj
      have HKJ := Lib.hid hkj
      have hzz := hkj.size
      have HOJ := Lib.hid (textTo_ok HO.out n htx.out j)
      clear hrj
      by_cases hlt : j < tn
      · have b1' : wr.cell? ⟨w.heap.size, 1, none⟩ = some (.int .i64 n) := ((hkj.at_ w.heap.size (by have := HZB.out; omega) (fun e => by have := HNE.out; rcases e with e | e <;> omega)).1 1).trans b1
        have htr : Reads wr B 1 A tn (bs text) := HT2.out.keep fun p hp => (World.cell?_of_block (hkj.block p.block (by have := HZB.out; omega) (fun e => by rcases e with e | e <;> omega))).trans (World.cell?_of_block (HUB.out.block p.block (by omega)))
        obtain ⟨b, off, rfl, hb⟩ := htr.form (by omega)
        obtain ⟨hbB, u, hu1, hu2⟩ := htr.at_ (j := j) (by omega)
        have hx : u = .int .u8 (text.getD j 0) := by
          have hl : j < text.length := by have := HTN.out; omega
          rw [bs, List.getElem?_map, List.getElem?_eq_getElem hl] at hu1
          rw [List.getD, List.getElem?_eq_getElem hl]
          exact (Option.some.inj hu1).symm
        subst hx
        have hxb := Lib.hid (show isB (text.getD j 0) by
          have hl : j < text.length := by have := HTN.out; omega
          rw [List.getD, List.getElem?_eq_getElem hl]
          exact htx.out _ (List.getElem_mem _))
        have HX := Lib.hid (show textTo X n text (j + 1) = if j < 200 then (textTo X n text j).put ((X.wrap n : Int) + (j : Int)) (text.getD j 0) else textTo X n text j from rfl)
        obtain ⟨x, hxx⟩ : ∃ x, text.getD j 0 = x := ⟨_, rfl⟩
        rw [hxx] at hu2 hxb HX
        have hjn : (j : Int) < (tn : Int) := by omega
        have HWR := Lib.hid (textTo_wrap X n text n j)
        have hwl := (HO.out.wrap n).2
        have hsm := HO.out.small
        obtain ⟨k, hk⟩ : ∃ k, X.wrap n = k := ⟨_, rfl⟩
        rw [hk] at HX HWR hwl
        have hkb : k ≤ 3564 := by omega
        have zb : b < wr.heap.size := by have := HZB.out; omega
        have zb0 : w.heap.size < wr.heap.size := by have := HZB.out; omega
        clear hkj htr hu1 hxx hk hwl
        generalize textTo X n text j = Y at *
        by_cases h200 : j < 200
        · rw [if_pos h200] at HX
          have h200' : (j : Int) < 200 := by omega
          go_wp2_with fail
          refine (rwrap_is n HRJ.out HOJ.out).mono ?_
          rw [HWR.out]
          rintro e w2 ⟨rfl, hb_w2⟩
          go_wp2_with fail
          refine (rput_is _ x hxb.out (HRJ.out.up hb_w2) HOJ.out).mono ?_
          rintro e w3 ⟨rfl, hr3, hk3⟩
          have HR3 := Lib.hid hr3
          have HK3 := Lib.hid ((HKJ.out.up hb_w2).trans hk3)
          clear hr3 hk3
          go_wp2
          go_roundw
          case rel => exact ⟨j + 1, by omega, by go_num, by rw [HX.out]; exact HR3.out, HK3.out⟩
          case measure => simp [intOf]; omega
        · rw [if_neg h200] at HX
          have h200' : ¬ (j : Int) < 200 := by omega
          go_wp2
          go_roundw
          case rel => exact ⟨j + 1, by omega, by go_num, by rw [HX.out]; exact HRJ.out, HKJ.out⟩
          case measure => simp [intOf]; omega
      · obtain rfl : j = tn := by omega
        clear hkj
        go_wp2
        go_end0
        refine ⟨rfl, RTo.of ?_ (keep_past HUB.out HKJ.out)⟩
        exact HRJ.out
end Go.Proofs.Ytjokcfenncogkaa
