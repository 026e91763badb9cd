/-
  field's Modify and the document's. No condition.
-/
import Derived.Test.YtjokcfenncogkaaOf13
import Derived.Test.YtjokcfenncogkaaAct12
import Derived.Test.YtjokcfenncogkaaRs2
namespace Go.Proofs.Ytjokcfenncogkaa
open Go.RowKit
set_option linter.unusedVariables false
set_option linter.unusedSimpArgs false

def Cl.mark (d : Cl) : Cl := { d with fa := bits .or .u8 d.fa 1 }
theorem or_tab : ∀ k : Fin 256, 0 ≤ bits .or .u8 (k.val : Int) 1 ∧ bits .or .u8 (k.val : Int) 1 ≤ 255 := by decide +kernel
theorem or_bd {v : Int} (h : isB v) : isB (bits .or .u8 v 1) := by
  have h := or_tab ⟨v.toNat, by have := h.2; omega⟩
  have h0 : ((v.toNat : Nat) : Int) = v := by have := ‹isB v›.1; omega
  simp only [h0] at h
  exact h
theorem Cl.mark_wf {d : Cl} (h : d.Wf) : d.mark.Wf := ⟨h.ch, or_bd h.fa, h.hi, h.co, h.se⟩
/-- a place's field is modified -/
def Spc.modify (X : Spc) (n : Int) : Spc := if 0 ≤ X.start n then X.set (X.start n) (X.at_ (X.start n)).mark else X
theorem Spc.Ok.modify {X : Spc} (ok : X.Ok) (n : Int) : (X.modify n).Ok := by
  unfold Spc.modify
  split
  · exact ok.set _ (Cl.mark_wf (ok.at_wf _))
  · exact ok
theorem sset_op {p g : Nat} {X Y : Spc} {w : World} (n : Int) {d : Cl} {c0 c2 c3 c4 c5 : Int} {c1 : Bool} (hd : d = ⟨c0, c1, c2, c3, c4, c5⟩) (hcw : d.Wf) (h : SAt w p g X) (ok : X.Ok) (hY : X.set n d = Y) :
    Calls Try.prog 28 #[.pointer (some ⟨p, 0, none⟩), .int .i64 n, .agg #[.int .u8 c0, .bool c1, .int .u8 c2, .int .u8 c3, .int .u8 c4, .int .u8 c5]] w fun e w' => e = .returned (.tuple #[]) ∧ SAt w' p g Y ∧ Keep (two p g) w w' := by
  subst hd; subst hY
  exact sset_is n _ hcw h ok
theorem rset_op {p g : Nat} {X Y : Spc} {w : World} (n : Int) {d : Cl} {c0 c2 c3 c4 c5 : Int} {c1 : Bool} (hd : d = ⟨c0, c1, c2, c3, c4, c5⟩) (hcw : d.Wf) (h : RAt w p g X) (ok : X.Ok) (hY : X.set n d = Y) :
    Calls Try.prog 131 #[.pointer (some ⟨p, 0, none⟩), .int .i64 n, .agg #[.int .u8 c0, .bool c1, .int .u8 c2, .int .u8 c3, .int .u8 c4, .int .u8 c5]] w fun e w' => e = .returned (.tuple #[]) ∧ RAt w' p g Y ∧ Keep (two p g) w w' := by
  subst hd; subst hY
  exact rset_is n _ hcw h ok
set_option maxHeartbeats 1600000 in
theorem fmodify_is {p g : Nat} {X : Spc} {w : World} (n : Int) (hs : SAt w p g X) (ok : X.Ok) :
    Calls Try.prog 82 #[.pointer (some ⟨p, 0, none⟩), .int .i64 n] w fun e w' => e = .returned (.bool (decide (0 ≤ X.start n))) ∧ SAt w' p g (X.modify n) ∧ Keep (two p g) w w' := by
  have HS := Lib.hid hs
  have HST := Lib.hid (fstart_is n hs ok)
  have zp := hs.lt
  have zg := hs.cells.2.1
  rcases start_range ok n with h | ⟨h, -⟩
  · have hm : X.modify n = X := by unfold Spc.modify; rw [if_neg (by omega)]
    rw [hm, h]
    rw [h] at HST
    clear hs ok h hm
    go_enter Try.func82, Try.ntmps82
    go_wp2_with fail
    refine HST.out.mono ?_
    rintro e w1 ⟨rfl, hu1⟩
    have HU1 := Lib.hid hu1
    clear hu1
    go_wp2_with fail
    go_ret
    exact ⟨rfl, HS.out.up HU1.out, Keep.of_up HU1.out⟩
  · obtain ⟨d, hd⟩ : ∃ d, X.at_ (X.start n) = d := ⟨_, rfl⟩
    have hm : X.modify n = X.set (X.start n) d.mark := by unfold Spc.modify; rw [if_pos h, hd]
    have hwf := Cl.mark_wf (ok.at_wf (X.start n))
    rw [hd] at hwf
    have HAT := Lib.hid (fun W (h' : SAt W p g X) => sat_op (X.start n) h' ok hd)
    have HSE := Lib.hid (fun W (h' : SAt W p g X) => sset_op (w := W) (X.start n) (d := d.mark) rfl hwf h' ok hm.symm)
    rw [decide_eq_true h]
    obtain ⟨a, ha⟩ : ∃ a, X.start n = a := ⟨_, rfl⟩
    rw [ha] at HST HAT HSE h
    have hna : (a == -1) = false := by simp; omega
    generalize X.modify n = Y at *
    clear hs ok hd hm hwf ha h
    obtain ⟨dch, da, dfa, dhi, dco, dse⟩ := d
    simp only [Cl.mark] at HSE HAT
    go_enter Try.func82, Try.ntmps82
    go_wp2_with fail
    refine HST.out.mono ?_
    rintro e w1 ⟨rfl, hu1⟩
    have HU1 := Lib.hid hu1
    clear hu1
    go_wp2_with fail
    refine (HAT.out _ (HS.out.up HU1.out)).mono ?_
    rintro e w2 ⟨rfl, hu2⟩
    have HU2 := Lib.hid (HU1.out.trans hu2)
    clear hu2
    go_wp2_with fail
    refine (HSE.out _ (HS.out.up (HU2.out.alloc _))).mono ?_
    rintro e w3 ⟨rfl, hs3, hk3⟩
    have HS3 := Lib.hid hs3
    have HK3 := Lib.hid hk3
    clear hs3 hk3
    go_wp2_with fail
    go_ret
    exact ⟨rfl, HS3.out, (Keep.of_up (HU2.out.alloc _)).trans HK3.out⟩
set_option maxHeartbeats 1600000 in
theorem rmodify_is {q h : Nat} {X : Spc} {w : World} (n : Int) (hr : RAt w q h X) (ok : X.Ok) :
    Calls Try.prog 83 #[.pointer (some ⟨q, 0, none⟩), .int .i64 n] w fun e w' => e = .returned (.bool (decide (0 ≤ X.start n))) ∧ RAt w' q h (X.modify n) ∧ Keep (two q h) w w' := by
  have HR := Lib.hid hr
  have HST := Lib.hid (rstart_is n hr ok)
  rcases start_range ok n with hh | ⟨hh, hh2⟩
  · have hm : X.modify n = X := by unfold Spc.modify; rw [if_neg (by omega)]
    rw [hm, hh]
    rw [hh] at HST
    clear hr ok hh hm
    go_enter Try.func83, Try.ntmps83
    go_wp2_with fail
    refine HST.out.mono ?_
    rintro e w1 ⟨rfl, hu1⟩
    have HU1 := Lib.hid hu1
    clear hu1
    go_wp2_with fail
    go_ret
    exact ⟨rfl, HR.out.up HU1.out, Keep.of_up HU1.out⟩
  · obtain ⟨k, hk⟩ : ∃ k : Nat, X.start n = (k : Int) := ⟨(X.start n).toNat, by omega⟩
    have hkl : k < X.L.length := by have := ok.len; omega
    obtain ⟨d, hd⟩ : ∃ d, X.at_ (X.start n) = d := ⟨_, rfl⟩
    have hm : X.modify n = X.set (X.start n) d.mark := by unfold Spc.modify; rw [if_pos hh, hd]
    have hwf := Cl.mark_wf (ok.at_wf (X.start n))
    rw [hd] at hwf
    have HSE := Lib.hid (fun W (h' : RAt W q h X) => rset_op (w := W) (X.start n) (d := d.mark) rfl hwf h' ok hm.symm)
    have hat := Spc.at_nat ok hkl
    rw [← hk, hd] at hat
    obtain ⟨x0, x1, x2, x3, x4, x5⟩ := hr.cells.2.2 k d hat
    obtain ⟨cap, q1, q2, k4⟩ := hr.h4
    have zp := hr.lt
    have zg := hr.cells.2.1
    have hsm := ok.small
    have hcp : (cap : Int) ≤ 9223372036854775807 := by simp [maxLen] at q2; omega
    rw [decide_eq_true hh]
    rw [hk] at HST HSE hh
    generalize X.modify n = Y at *
    obtain ⟨m, hml⟩ : ∃ m, X.L.length = m := ⟨_, rfl⟩
    rw [hml] at q1 k4 hsm hkl
    have hkm : (k : Int) < (m : Int) := by omega
    clear hr ok hd hm hwf hk hat hml hh2 q2
    obtain ⟨dch, da, dfa, dhi, dco, dse⟩ := d
    simp only [Cl.mark] at HSE
    simp only at x0 x1 x2 x3 x4 x5
    go_enter Try.func83, Try.ntmps83
    go_wp2_with fail
    refine HST.out.mono ?_
    rintro e w1 ⟨rfl, hu1⟩
    have HU1 := Lib.hid hu1
    have z1 := hu1.size
    have k5 := ((hu1.at_ q zp).1 4).trans k4
    have hxa := (hu1.at_ h zg).1
    have y0 := (hxa _).trans x0
    have y1 := (hxa _).trans x1
    have y2 := (hxa _).trans x2
    have y3 := (hxa _).trans x3
    have y4 := (hxa _).trans x4
    have y5 := (hxa _).trans x5
    have zp1 : q < w1.heap.size := by omega
    have zg1 : h < w1.heap.size := by omega
    clear hu1 hxa k4 x0 x1 x2 x3 x4 x5
    go_wp2_with fail
    refine (HSE.out _ (HR.out.up (HU1.out.alloc _))).mono ?_
    rintro e w3 ⟨rfl, hs3, hk3⟩
    have HS3 := Lib.hid hs3
    have HK3 := Lib.hid hk3
    clear hs3 hk3
    go_wp2_with fail
    go_ret
    exact ⟨rfl, HS3.out, (Keep.of_up (HU1.out.alloc _)).trans HK3.out⟩
end Go.Proofs.Ytjokcfenncogkaa
