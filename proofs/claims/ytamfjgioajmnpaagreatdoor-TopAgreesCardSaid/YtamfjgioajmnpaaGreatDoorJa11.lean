/-
field's Start, first, find, Next, Prev. No condition.
The document's Starts, Start and Field. No condition.
The document's Start, Field, Places. No condition.
field's Of and Open, the document's Open; two field attributes alike. No condition.
What the reference's Clear and New do. No condition.
Acts upon a screen, as plain data. No condition.
field's Modify and the document's. No condition.
-/
import Derived.Test.YtamfjgioajmnpaaGreatDoorJa10
import Derived.Test.YtamfjgioajmnpaaGreatDoorJa8
import Derived.Test.YtamfjgioajmnpaaGreatDoorJa7
namespace Go.Proofs.YtamfjgioajmnpaaGreatDoor
open Go.RowKit
set_option linter.unusedVariables false
set_option linter.unusedSimpArgs false

/-- a cell at a place, opened -/
theorem sat_op {p g : Nat} {X : Spc} {w : World} (n : Int) (h : SAt w p g X) (ok : X.Ok) {d : Cl} (hd : X.at_ n = d) : Calls Tryz.prog 42 #[.pointer (some ⟨p, 0, none⟩), .int .i64 n] w fun e w' => e = .returned (.agg #[.int .u8 d.ch, .bool d.at_, .int .u8 d.fa, .int .u8 d.hi, .int .u8 d.co, .int .u8 d.se]) ∧ Up w w' := by
  have := sat_is n h ok
  rw [hd] at this
  exact this
theorem fldC1 (v0 v2 v3 v4 v5 : Value) (b : Bool) (w : World) : (Instr.field 99 (.agg #[v0, .bool b, v2, v3, v4, v5]) 1).run Tryz.prog w = .ok (.bool b) w := by kernel_rfl
theorem fldC2 (a : Int) (v0 v1 v3 v4 v5 : Value) (w : World) : (Instr.field 99 (.agg #[v0, v1, .int .u8 a, v3, v4, v5]) 2).run Tryz.prog w = .ok (.int .u8 a) w := by kernel_rfl
theorem fldF0 (a : Bool) (v1 v2 v3 : Value) (w : World) : (Instr.field 305 (.agg #[.bool a, v1, v2, v3]) 0).run Tryz.prog w = .ok (.bool a) w := by kernel_rfl
set_option maxHeartbeats 3200000 in
theorem fstart_is {p g : Nat} {X : Spc} {w : World} (n : Int) (hs : SAt w p g X) (ok : X.Ok) :
    Calls Tryz.prog 186 #[.pointer (some ⟨p, 0, none⟩), .int .i64 n] w fun e w' => e = .returned (.int .i64 (X.start n)) ∧ Up w w' := by
  have HS := Lib.hid hs
  have HO := Lib.hid ok
  have fC := fldC1
  have HF := Lib.hid (sform_is hs)
  have HV := Lib.hid ok.valid
  have HSZ := Lib.hid (fun W (h : SAt W p g X) => ssize_is h)
  have hm0 := Spc.pos ok
  have hln := ok.len
  have hsm := ok.small
  by_cases hfm : 0 < attrsN X.L
  · rw [decide_eq_true hfm] at HF
    obtain ⟨d, d1, d2, d3, d4⟩ := back_some ok n hfm
    rw [start_some d1]
    have HD3 := Lib.hid d3
    have HD4 := Lib.hid d4
    clear hs ok hfm d1 d3 d4
    have HAT := Lib.hid (fun W (h : SAt W p g X) (j : Nat) => sat_op ((n - j) % (X.r * X.c)) h HO.out (Spc.at_emod X _))
    have HAE := Lib.hid (fun j : Nat => show (X.at_ (n - j)).at_ = X.isA (n - j) from rfl)
    have HWG := Lib.hid (fun n W => wrap_good X.r X.c n W HV.out)
    generalize hM : X.r * X.c = M at *
    have HM := Lib.hid hM
    generalize X.r = r at *
    generalize X.c = c at *
    clear hM
    go_enter Tryz.func186, Tryz.ntmps186
    go_wp2_with fail
    refine HF.out.mono ?_
    rintro e w1 ⟨rfl, rfl⟩
    go_wp2_with fail
    refine (HSZ.out _ HS.out).mono ?_
    rintro e w1 ⟨rfl, hb_w1⟩
    have hu_w1 : Up w w1 := by (repeat (first | with_reducible exact Up.refl _ | with_reducible refine Up.alloc ?_ _ | with_reducible refine Up.drew ?_ | with_reducible refine Up.drewN ?_ _ | with_reducible refine Up.setCell ?_ (by (try simp) <;> omega) _ | with_reducible assumption | with_reducible refine Up.trans ?_ (by assumption)))
    have hz_w1 := Up.size hb_w1
    try simp at hz_w1
    go_wp2_with fail
    refine (HWG.out n _).mono ?_
    rintro e w2 ⟨rfl, hb_w2⟩
    have hu_w2 : Up w1 w2 := by (repeat (first | with_reducible exact Up.refl _ | with_reducible refine Up.alloc ?_ _ | with_reducible refine Up.drew ?_ | with_reducible refine Up.drewN ?_ _ | with_reducible refine Up.setCell ?_ (by (try simp) <;> omega) _ | with_reducible assumption | with_reducible refine Up.trans ?_ (by assumption)))
    have hz_w2 := Up.size hb_w2
    try simp at hz_w2
    obtain ⟨bd_w2_0, be_w2_0⟩ := hb_w2.at_ (w1.heap.size) (by (try simp) <;> omega)
    have zb_w2_0 : w1.heap.size < w2.heap.size := by omega
    go_wp2_with fail
    have HU2 := Lib.hid (show Up w w2 by (repeat (first | with_reducible exact Up.refl _ | with_reducible refine Up.alloc ?_ _ | with_reducible refine Up.drew ?_ | with_reducible refine Up.drewN ?_ _ | with_reducible refine Up.setCell ?_ (by (try simp) <;> omega) _ | with_reducible assumption | with_reducible refine Up.trans ?_ (by assumption))))
    have k0 : w2.cell? ⟨w1.heap.size, 0, none⟩ = some (.int .i64 r) := (bd_w2_0 0).trans (by simp [go_sem])
    have k1 : w2.cell? ⟨w1.heap.size, 1, none⟩ = some (.int .i64 c) := (bd_w2_0 1).trans (by simp [go_sem])
    go_loopw [1] (fun i wr => ∃ j : Nat, j ≤ d ∧ i = .int .i64 ((n - j) % M) ∧ Up w2 wr) (fun i _ => ((intOf i - (n - d) % M) % M).toNat)
    case atStart => exact ⟨0, by omega, by simp, Up.refl _⟩
    case round =>
      obtain ⟨j, hj, rfl, huj⟩ := hrel
      have HUJ := Lib.hid huj
      have hb0 := huj.at_ w1.heap.size (by omega)
      have c0 := (hb0.1 0).trans k0
      have c1 := (hb0.1 1).trans k1
      have zr := huj.size
      have hlo : 0 ≤ (n - (j : Int)) % M := Int.emod_nonneg _ (by omega)
      have hhi : (n - (j : Int)) % M < M := Int.emod_lt_of_pos _ hm0
      clear hb0 huj
      obtain ⟨cc, hcc⟩ : ∃ cc, X.at_ (n - j) = cc := ⟨_, rfl⟩
      have HATJ := Lib.hid (HAT.out wr (HS.out.up (HU2.out.trans HUJ.out)) j)
      have HAEJ := Lib.hid (HAE.out j)
      rw [hcc] at HATJ HAEJ
      by_cases hd : j = d
      · subst hd
        have hat : cc.at_ = true := by rw [HAEJ.out]; exact HD3.out
        clear hcc
        rw [hat] at HATJ
        go_wp2_with fail
        refine HATJ.out.mono ?_
        rintro e w3 ⟨rfl, hu3⟩
        go_wp2_with fail
        go_ret
        exact ⟨rfl, HU2.out.trans (HUJ.out.trans hu3)⟩
      · have hat : cc.at_ = false := by rw [HAEJ.out]; exact HD4.out j (by omega)
        clear hcc
        rw [hat] at HATJ
        go_wp2_with fail
        refine HATJ.out.mono ?_
        rintro e w3 ⟨rfl, hu3⟩
        have hb3 := hu3.at_ w1.heap.size (by omega)
        have e0 := (hb3.1 0).trans c0
        have e1 := (hb3.1 1).trans c1
        have z3 := hu3.size
        clear hb3
        go_wp2_with fail
        refine (HWG.out _ _).mono ?_
        rintro e w4 ⟨rfl, hu4⟩
        have HU4 := Lib.hid (show Up w2 w4 from HUJ.out.trans (hu3.trans hu4))
        have he : ((n - (j : Int)) % M - 1) % M = (n - ((j + 1 : Nat) : Int)) % M := by rw [Int.emod_sub_emod]; congr 1; omega
        simp only [he]
        go_wp2_with fail
        go_roundw
        case rel => exact ⟨j + 1, by omega, rfl, HU4.out⟩
        case measure =>
          show ((intOf (.int .i64 ((n - ((j + 1 : Nat) : Int)) % M)) - (n - d) % M) % M).toNat < ((intOf (.int .i64 ((n - (j : Int)) % M)) - (n - d) % M) % M).toNat
          simp only [intOf]
          rw [dist_dn (by omega) (by omega), dist_dn (by omega) (by omega)]
          omega
  · rw [decide_eq_false hfm] at HF
    rw [start_none ok n hfm]
    clear hs ok hfm
    go_enter Tryz.func186, Tryz.ntmps186
    go_wp2_with fail
    refine HF.out.mono ?_
    rintro e w1 ⟨rfl, rfl⟩
    go_wp2_with fail
    go_ret
    exact ⟨rfl, Up.refl _⟩
theorem Spc.fa_at {X : Spc} (ok : X.Ok) (n : Int) : 0 ≤ (X.at_ n).fa ∧ (X.at_ n).fa ≤ 255 := by
  have h := ok.at_wf n
  exact ⟨h.fa.1, h.fa.2⟩
set_option maxHeartbeats 1600000 in
theorem ffirst_is {p g : Nat} {X : Spc} {w : World} (n : Int) (hs : SAt w p g X) (ok : X.Ok) (h0 : -9223372036854775807 ≤ n) (h1 : n ≤ 9223372036854775807) :
    Calls Tryz.prog 348 #[.pointer (some ⟨p, 0, none⟩), .int .i64 n] w fun e w' => e = .returned (.bool (X.fst n)) ∧ Up w w' := by
  have HS := Lib.hid hs
  have fC := fldC1
  have fF := fldF0
  obtain ⟨d, hd⟩ : ∃ d, X.at_ (n - 1) = d := ⟨_, rfl⟩
  obtain ⟨d2, hd2⟩ : ∃ d, X.at_ n = d := ⟨_, rfl⟩
  have hfa := Spc.fa_at ok (n - 1)
  have HA := Lib.hid (sat_op (n - 1) hs ok hd)
  have HA2 := Lib.hid (fun W (h : SAt W p g X) => sat_op n h ok hd2)
  have hres : X.fst n = (d.at_ && !d2.at_ && !fP d.fa) := by unfold Spc.fst Spc.isA; rw [hd, hd2]
  rw [hd] at hfa
  rw [hres]
  obtain ⟨f0, f1⟩ := hfa
  have HOF := Lib.hid (fun W => of_any d.fa W f0 f1)
  clear hs ok hd hd2 hres
  obtain ⟨ch, at_, fa, hi, co, se⟩ := d
  obtain ⟨ch2, at2, fa2, hi2, co2, se2⟩ := d2
  simp only at *
  cases at_
  · go_enter Tryz.func348, Tryz.ntmps348
    go_wp2_with fail
    refine HA.out.mono ?_
    rintro e w1 ⟨rfl, hu1⟩
    have HU1 := Lib.hid hu1
    have z1 := hu1.size
    go_wp2_with fail
    go_ret
    exact ⟨rfl, HU1.out.alloc _⟩
  · cases at2
    · go_enter Tryz.func348, Tryz.ntmps348
      go_wp2_with fail
      refine HA.out.mono ?_
      rintro e w1 ⟨rfl, hu1⟩
      have HU1 := Lib.hid hu1
      have z1 := hu1.size
      go_wp2_with fail
      refine (HA2.out _ (HS.out.up (HU1.out.alloc _))).mono ?_
      rintro e w2 ⟨rfl, hu2⟩
      have hb := hu2.at_ w1.heap.size (by simp)
      have b2 := (hb.1 2).trans (by simp [go_sem] : _ = some (.int .u8 fa))
      have HU2 := Lib.hid (show Up w w2 from (HU1.out.alloc _).trans hu2)
      clear hb hu2
      go_wp2_with fail
      refine (HOF.out _).mono ?_
      rintro e w3 ⟨rfl, hu3⟩
      go_wp2_with fail
      go_ret
      exact ⟨rfl, HU2.out.trans hu3⟩
    · go_enter Tryz.func348, Tryz.ntmps348
      go_wp2_with fail
      refine HA.out.mono ?_
      rintro e w1 ⟨rfl, hu1⟩
      have HU1 := Lib.hid hu1
      have z1 := hu1.size
      go_wp2_with fail
      refine (HA2.out _ (HS.out.up (HU1.out.alloc _))).mono ?_
      rintro e w2 ⟨rfl, hu2⟩
      have hb := hu2.at_ w1.heap.size (by simp)
      have b2 := (hb.1 2).trans (by simp [go_sem] : _ = some (.int .u8 fa))
      have HU2 := Lib.hid (show Up w w2 from (HU1.out.alloc _).trans hu2)
      clear hb hu2
      go_wp2_with fail
      go_ret
      exact ⟨rfl, HU2.out⟩
set_option maxHeartbeats 3200000 in
theorem ffind_is {p g : Nat} {X : Spc} {w : World} (n s : Int) (hs : SAt w p g X) (ok : X.Ok) (h0 : 0 ≤ n) (h1 : n < X.r * X.c) (s0 : -1 ≤ s) (s1 : s ≤ 1) :
    Calls Tryz.prog 291 #[.pointer (some ⟨p, 0, none⟩), .int .i64 n, .int .i64 s] w fun e w' => e = .returned (.int .i64 (X.find n s)) ∧ Up w w' := by
  have HS := Lib.hid hs
  have HO := Lib.hid ok
  have HV := Lib.hid ok.valid
  have HSZ := Lib.hid (fun W (h : SAt W p g X) => ssize_is h)
  have hm0 := Spc.pos ok
  have hln := ok.len
  have hsm := ok.small
  have HFI := Lib.hid (fun W (h : SAt W p g X) (j : Nat) => ffirst_is ((n + s * ((j : Int) + 1)) % (X.r * X.c)) h HO.out (by have := Int.emod_nonneg (n + s * ((j : Int) + 1)) (show X.r * X.c ≠ 0 by omega); omega) (by have := Int.emod_lt_of_pos (n + s * ((j : Int) + 1)) hm0; omega))
  have HFE := Lib.hid (fun j : Nat => show X.fst ((n + s * ((j : Int) + 1)) % (X.r * X.c)) = X.fst (n + s * ((j : Int) + 1)) from fst_congr (by simp))
  have HCG := Lib.hid (fun W => cells_good X.r X.c W HV.out)
  have HWG := Lib.hid (fun n W => wrap_good X.r X.c n W HV.out)
  have HFD := Lib.hid (show X.find n s = match X.far n s with | some d => (n + s * (d + 1)) % (X.r * X.c) | none => -1 from rfl)
  obtain ⟨m, hm⟩ : ∃ m, X.L.length = m := ⟨_, rfl⟩
  have HFS := Lib.hid (fun d : Nat => show d < m → X.fst (n + s * ((d : Int) + 1)) = true → (∀ j : Nat, j < d → X.fst (n + s * ((j : Int) + 1)) = false) → X.far n s = some d from fun h1 h2 h3 => least_some.2 ⟨by omega, h2, h3⟩)
  have HFN := Lib.hid (show (∀ j : Nat, j < m → X.fst (n + s * ((j : Int) + 1)) = false) → X.far n s = none from fun h => least_none.2 fun j hj => h j (by omega))
  rw [hm] at hln hsm
  rw [← hln] at HCG hm0 h1
  clear hs ok hm
  generalize hM : X.r * X.c = M at *
  have HL := Lib.hid hln
  subst hln
  generalize X.r = r at *
  generalize X.c = c at *
  generalize X.find n s = res at *
  clear hM
  have hn2 : 0 ≤ n % (m : Int) := Int.emod_nonneg _ (by omega)
  have hn3 : n % (m : Int) = n := Int.emod_eq_of_lt h0 h1
  go_enter Tryz.func291, Tryz.ntmps291
  go_wp2_with fail
  refine (HSZ.out _ HS.out).mono ?_
  rintro e w1 ⟨rfl, hb_w1⟩
  have hu_w1 : Up w w1 := by (repeat (first | with_reducible exact Up.refl _ | with_reducible refine Up.alloc ?_ _ | with_reducible refine Up.drew ?_ | with_reducible refine Up.drewN ?_ _ | with_reducible refine Up.setCell ?_ (by (try simp) <;> omega) _ | with_reducible assumption | with_reducible refine Up.trans ?_ (by assumption)))
  have hz_w1 := Up.size hb_w1
  try simp at hz_w1
  go_wp2_with fail
  refine (HCG.out _).mono ?_
  rintro e w2 ⟨rfl, hb_w2⟩
  have hu_w2 : Up w1 w2 := by (repeat (first | with_reducible exact Up.refl _ | with_reducible refine Up.alloc ?_ _ | with_reducible refine Up.drew ?_ | with_reducible refine Up.drewN ?_ _ | with_reducible refine Up.setCell ?_ (by (try simp) <;> omega) _ | with_reducible assumption | with_reducible refine Up.trans ?_ (by assumption)))
  have hz_w2 := Up.size hb_w2
  try simp at hz_w2
  obtain ⟨bd_w2_0, be_w2_0⟩ := hb_w2.at_ (w1.heap.size) (by (try simp) <;> omega)
  have zb_w2_0 : w1.heap.size < w2.heap.size := by omega
  go_wp2_with fail
  have HU2 := Lib.hid (show Up w w2 by (repeat (first | with_reducible exact Up.refl _ | with_reducible refine Up.alloc ?_ _ | with_reducible refine Up.drew ?_ | with_reducible refine Up.drewN ?_ _ | with_reducible refine Up.setCell ?_ (by (try simp) <;> omega) _ | with_reducible assumption | with_reducible refine Up.trans ?_ (by assumption))))
  have k0 : w2.cell? ⟨w1.heap.size, 0, none⟩ = some (.int .i64 r) := (bd_w2_0 0).trans (by simp [go_sem])
  have k1 : w2.cell? ⟨w1.heap.size, 1, none⟩ = some (.int .i64 c) := (bd_w2_0 1).trans (by simp [go_sem])
  go_loopw [1, 12] (fun v i wr => ∃ j : Nat, j ≤ m ∧ v = .int .i64 ((n + s * (j : Int)) % m) ∧ i = .int .i64 (j : Int) ∧ (∀ k : Nat, k < j → X.fst (n + s * ((k : Int) + 1)) = false) ∧ Up w2 wr) (fun _ i _ => m - (intOf i).toNat)
  case atStart => exact ⟨0, by omega, by simp [hn3], rfl, by omega, Up.refl _⟩
  case round =>
    obtain ⟨j, hj, rfl, rfl, hall, huj⟩ := hrel
    have HUJ := Lib.hid huj
    have HAL := Lib.hid hall
    have hb0 := huj.at_ w1.heap.size (by omega)
    have c0 := (hb0.1 0).trans k0
    have c1 := (hb0.1 1).trans k1
    have zr := huj.size
    have hlo : 0 ≤ (n + s * (j : Int)) % (m : Int) := Int.emod_nonneg _ (by omega)
    have hhi : (n + s * (j : Int)) % (m : Int) < (m : Int) := Int.emod_lt_of_pos _ (by omega)
    have HE := Lib.hid (show ((n + s * (j : Int)) % (m : Int) + s) % (m : Int) = (n + s * ((j : Int) + 1)) % (m : Int) by rw [Int.emod_add_emod]; congr 1; rw [Int.mul_add]; omega)
    clear hb0 huj hall
    by_cases hlt : j < m
    · have hjm : (j : Int) < (m : Int) := by omega
      obtain ⟨v, hv⟩ : ∃ v, (n + s * (j : Int)) % (m : Int) = v := ⟨_, rfl⟩
      rw [hv] at hlo hhi HE ⊢
      clear hv
      go_wp2_with fail
      refine (HWG.out _ _).mono ?_
      rintro e w3 ⟨rfl, hu3⟩
      rw [HE.out]
      have HU3 := Lib.hid (HUJ.out.trans hu3)
      obtain ⟨v2, hv2⟩ : ∃ v2, (n + s * ((j : Int) + 1)) % (m : Int) = v2 := ⟨_, rfl⟩
      have HV2 := Lib.hid hv2
      have HFJ := Lib.hid (HFI.out w3 (HS.out.up (HU2.out.trans HU3.out)) j)
      rw [HFE.out, hv2] at HFJ
      have z3 := hu3.size
      have hb3 := hu3.at_ w1.heap.size (by omega)
      have e0 := (hb3.1 0).trans c0
      have e1 := (hb3.1 1).trans c1
      rw [hv2]
      clear hv2 hu3 hb3
      obtain ⟨b, hb⟩ : ∃ b, X.fst (n + s * ((j : Int) + 1)) = b := ⟨_, rfl⟩
      have HB := Lib.hid hb
      rw [hb] at HFJ
      clear hb
      cases b
      · go_wp2_with fail
        refine HFJ.out.mono ?_
        rintro e w4 ⟨rfl, hu4⟩
        have HU4 := Lib.hid (HU3.out.trans hu4)
        go_wp2_with fail
        go_roundw
        case rel => exact ⟨j + 1, by omega, by rw [← HV2.out]; congr 2, by go_num, fun k hk => by
          rcases Nat.lt_or_ge k j with h | h
          · exact HAL.out k h
          · obtain rfl : k = j := by omega
            exact HB.out, HU4.out⟩
        case measure => simp [intOf]; omega
      · go_wp2_with fail
        refine HFJ.out.mono ?_
        rintro e w4 ⟨rfl, hu4⟩
        have HU4 := Lib.hid (HU3.out.trans hu4)
        have HRS := Lib.hid (show res = v2 by
          have h := HFD.out
          rw [HFS.out j hlt HB.out HAL.out] at h
          rw [h, ← HV2.out])
        go_wp2_with fail
        go_ret
        exact ⟨by rw [HRS.out]; rfl, HU2.out.trans HU4.out⟩
    · obtain rfl : j = m := by omega
      have HRS := Lib.hid (show res = -1 by
        have h := HFD.out
        rw [HFN.out HAL.out] at h
        exact h)
      go_wp2_with fail
      go_ret
      exact ⟨by rw [HRS.out]; rfl, HU2.out.trans HUJ.out⟩
theorem fnext_is {p g : Nat} {X : Spc} {w : World} (n : Int) (hs : SAt w p g X) (ok : X.Ok) :
    Calls Tryz.prog 244 #[.pointer (some ⟨p, 0, none⟩), .int .i64 n] w fun e w' => e = .returned (.int .i64 (X.find n 1)) ∧ Up w w' := by
  have HS := Lib.hid hs
  have HSZ := Lib.hid (ssize_is hs)
  have hm0 := Spc.pos ok
  have HWG := Lib.hid (fun W => wrap_good X.r X.c n W ok.valid)
  have HFD := Lib.hid (fun W (h : SAt W p g X) => ffind_is (n % (X.r * X.c)) 1 h ok (Int.emod_nonneg _ (by omega)) (Int.emod_lt_of_pos _ hm0) (by omega) (by omega))
  rw [find_emod] at HFD
  generalize X.r * X.c = M at *
  generalize X.find n 1 = res at *
  generalize X.r = r at *
  generalize X.c = c at *
  clear hs ok
  go_enter Tryz.func244, Tryz.ntmps244
  go_wp2_with fail
  refine (HSZ.out).mono ?_
  rintro e w1 ⟨rfl, hb_w1⟩
  have hu_w1 : Up w w1 := by (repeat (first | with_reducible exact Up.refl _ | with_reducible refine Up.alloc ?_ _ | with_reducible refine Up.drew ?_ | with_reducible refine Up.drewN ?_ _ | with_reducible refine Up.setCell ?_ (by (try simp) <;> omega) _ | with_reducible assumption | with_reducible refine Up.trans ?_ (by assumption)))
  have hz_w1 := Up.size hb_w1
  try simp at hz_w1
  go_wp2_with fail
  refine (HWG.out _).mono ?_
  rintro e w2 ⟨rfl, hb_w2⟩
  have hu_w2 : Up w1 w2 := by (repeat (first | with_reducible exact Up.refl _ | with_reducible refine Up.alloc ?_ _ | with_reducible refine Up.drew ?_ | with_reducible refine Up.drewN ?_ _ | with_reducible refine Up.setCell ?_ (by (try simp) <;> omega) _ | with_reducible assumption | with_reducible refine Up.trans ?_ (by assumption)))
  have hz_w2 := Up.size hb_w2
  try simp at hz_w2
  go_wp2_with fail
  refine (HFD.out _ (HS.out.up (by (repeat (first | with_reducible exact Up.refl _ | with_reducible refine Up.alloc ?_ _ | with_reducible refine Up.drew ?_ | with_reducible refine Up.drewN ?_ _ | with_reducible refine Up.setCell ?_ (by (try simp) <;> omega) _ | with_reducible assumption | with_reducible refine Up.trans ?_ (by assumption)))))).mono ?_
  rintro e w3 ⟨rfl, hb_w3⟩
  have hu_w3 : Up w2 w3 := by (repeat (first | with_reducible exact Up.refl _ | with_reducible refine Up.alloc ?_ _ | with_reducible refine Up.drew ?_ | with_reducible refine Up.drewN ?_ _ | with_reducible refine Up.setCell ?_ (by (try simp) <;> omega) _ | with_reducible assumption | with_reducible refine Up.trans ?_ (by assumption)))
  have hz_w3 := Up.size hb_w3
  try simp at hz_w3
  go_wp2_with fail
  go_ret
  exact ⟨rfl, by (repeat (first | with_reducible exact Up.refl _ | with_reducible refine Up.alloc ?_ _ | with_reducible refine Up.drew ?_ | with_reducible refine Up.drewN ?_ _ | with_reducible refine Up.setCell ?_ (by (try simp) <;> omega) _ | with_reducible assumption | with_reducible refine Up.trans ?_ (by assumption)))⟩
end Go.Proofs.YtamfjgioajmnpaaGreatDoor
namespace Go.Proofs.YtamfjgioajmnpaaGreatDoor
open Go.RowKit
set_option linter.unusedVariables false
set_option linter.unusedSimpArgs false

end Go.Proofs.YtamfjgioajmnpaaGreatDoor
namespace Go.Proofs.YtamfjgioajmnpaaGreatDoor
open Go.RowKit
set_option linter.unusedVariables false
set_option linter.unusedSimpArgs false

end Go.Proofs.YtamfjgioajmnpaaGreatDoor
namespace Go.Proofs.YtamfjgioajmnpaaGreatDoor
open Go.RowKit
set_option linter.unusedVariables false
set_option linter.unusedSimpArgs false

theorem start_range {X : Spc} (ok : X.Ok) (n : Int) : X.start n = -1 ∨ (0 ≤ X.start n ∧ X.start n < X.r * X.c) := by
  unfold Spc.start
  cases X.back n with
  | none => exact .inl rfl
  | some d => exact .inr ⟨Int.emod_nonneg _ (by have := Spc.pos ok; omega), Int.emod_lt_of_pos _ (Spc.pos ok)⟩
/-- may one write there? -/
def Spc.open_ (X : Spc) (n : Int) : Bool := !X.isA n && (decide (X.start n < 0) || !fP (X.at_ (X.start n)).fa)
set_option maxHeartbeats 1600000 in
theorem fof_some {p g : Nat} {X : Spc} {w : World} (n : Int) (hs : SAt w p g X) (ok : X.Ok) (h : 0 ≤ X.start n) {f : Int} (hf : (X.at_ (X.start n)).fa = f) :
    Calls Tryz.prog 187 #[.pointer (some ⟨p, 0, none⟩), .int .i64 n] w fun e w' => e = .returned (.tuple #[.agg #[.bool (fP f), .bool (fN f), .int .i64 (fD f), .bool (fM f)], .bool true]) ∧ Up w w' := by
  have HS := Lib.hid hs
  have fC := fldC2
  have H1 := Lib.hid (fun W (h' : SAt W p g X) => fstart_is n h' ok)
  obtain ⟨a, ha⟩ : ∃ a, X.start n = a := ⟨_, rfl⟩
  rw [ha] at H1 h hf
  have hfa := Spc.fa_at ok a
  obtain ⟨d, hd⟩ : ∃ d, X.at_ a = d := ⟨_, rfl⟩
  have H2 := Lib.hid (fun W (h' : SAt W p g X) => sat_op a h' ok hd)
  rw [hd] at hf hfa
  rw [hf] at hfa H2
  have H3 := Lib.hid (fun W => of_any f W hfa.1 hfa.2)
  have hna : (a == -1) = false := by simp; omega
  clear hs ok ha hd hf hfa
  go_enter Tryz.func187, Tryz.ntmps187
  go_wp2_with fail
  refine (H1.out _ (HS.out.up ((Up.refl w).alloc _))).mono ?_
  rintro e w1 ⟨rfl, hu1⟩
  have hb := hu1.at_ w.heap.size (by simp)
  have k0 := (hb.1 0).trans (by simp [go_sem] : _ = some (.bool false))
  have k1 := (hb.1 1).trans (by simp [go_sem] : _ = some (.bool false))
  have k2 := (hb.1 2).trans (by simp [go_sem] : _ = some (.int .i64 0))
  have k3 := (hb.1 3).trans (by simp [go_sem] : _ = some (.bool false))
  have f0 := (hb.2 0).trans (by simp [go_sem] : _ = false)
  have f1 := (hb.2 1).trans (by simp [go_sem] : _ = false)
  have f2 := (hb.2 2).trans (by simp [go_sem] : _ = false)
  have f3 := (hb.2 3).trans (by simp [go_sem] : _ = false)
  have zk : w.heap.size < w1.heap.size := by have := hu1.size; simp at this; omega
  have HU1 := Lib.hid (((Up.refl w).alloc _).trans hu1)
  clear hb hu1
  go_wp2_with fail
  refine (H2.out _ (HS.out.up HU1.out)).mono ?_
  rintro e w2 ⟨rfl, hu2⟩
  have HU2 := Lib.hid (HU1.out.trans hu2)
  have z2 := hu2.size
  have hb2 := hu2.at_ w.heap.size zk
  clear hu2
  go_wp2_with fail
  refine (H3.out _).mono ?_
  rintro e w3 ⟨rfl, hu3⟩
  have hb3 := hu3.at_ w.heap.size (by omega)
  have K0 := (hb3.1 0).trans ((hb2.1 0).trans k0)
  have K1 := (hb3.1 1).trans ((hb2.1 1).trans k1)
  have K2 := (hb3.1 2).trans ((hb2.1 2).trans k2)
  have K3 := (hb3.1 3).trans ((hb2.1 3).trans k3)
  have F0 := (hb3.2 0).trans ((hb2.2 0).trans f0)
  have F1 := (hb3.2 1).trans ((hb2.2 1).trans f1)
  have F2 := (hb3.2 2).trans ((hb2.2 2).trans f2)
  have F3 := (hb3.2 3).trans ((hb2.2 3).trans f3)
  have zk3 : w.heap.size < w3.heap.size := by have := hu3.size; omega
  have HU3 := Lib.hid (HU2.out.trans hu3)
  clear hb3 hb2 hu3
  go_wp2_with fail
  exact bodyPost_ret (v := .tuple #[.agg #[.bool (fP f), .bool (fN f), .int .i64 (fD f), .bool (fM f)], .bool true]) (by simp [results, Tryz.results187, go_sem, K0, K1, K2, K3]) rfl ⟨rfl, (((HU3.out.setCell (by simp) _).setCell (by simp) _).setCell (by simp) _).setCell (by simp) _⟩
theorem fof_none {p g : Nat} {X : Spc} {w : World} (n : Int) (hs : SAt w p g X) (ok : X.Ok) (h : X.start n = -1) :
    Calls Tryz.prog 187 #[.pointer (some ⟨p, 0, none⟩), .int .i64 n] w fun e w' => e = .returned (.tuple #[.agg #[.bool false, .bool false, .int .i64 0, .bool false], .bool false]) ∧ Up w w' := by
  have HS := Lib.hid hs
  have H1 := Lib.hid (fun W (h' : SAt W p g X) => fstart_is n h' ok)
  rw [h] at H1
  clear hs ok h
  go_enter Tryz.func187, Tryz.ntmps187
  go_wp2_with fail
  refine (H1.out _ (HS.out.up ((Up.refl w).alloc _))).mono ?_
  rintro e w1 ⟨rfl, hu1⟩
  have hb := hu1.at_ w.heap.size (by simp)
  have k0 := (hb.1 0).trans (by simp [go_sem] : _ = some (.bool false))
  have k1 := (hb.1 1).trans (by simp [go_sem] : _ = some (.bool false))
  have k2 := (hb.1 2).trans (by simp [go_sem] : _ = some (.int .i64 0))
  have k3 := (hb.1 3).trans (by simp [go_sem] : _ = some (.bool false))
  have f0 := (hb.2 0).trans (by simp [go_sem] : _ = false)
  have f1 := (hb.2 1).trans (by simp [go_sem] : _ = false)
  have f2 := (hb.2 2).trans (by simp [go_sem] : _ = false)
  have f3 := (hb.2 3).trans (by simp [go_sem] : _ = false)
  have zk : w.heap.size < w1.heap.size := by have := hu1.size; simp at this; omega
  have HU1 := Lib.hid (((Up.refl w).alloc _).trans hu1)
  clear hb hu1
  go_wp2_with fail
  exact bodyPost_ret (v := .tuple #[.agg #[.bool false, .bool false, .int .i64 0, .bool false], .bool false]) (by simp [results, Tryz.results187, go_sem, k0, k1, k2, k3]) rfl ⟨rfl, (((HU1.out.setCell (by simp) _).setCell (by simp) _).setCell (by simp) _).setCell (by simp) _⟩
set_option maxHeartbeats 1600000 in
theorem fopen_is {p g : Nat} {X : Spc} {w : World} (n : Int) (hs : SAt w p g X) (ok : X.Ok) :
    Calls Tryz.prog 249 #[.pointer (some ⟨p, 0, none⟩), .int .i64 n] w fun e w' => e = .returned (.bool (X.open_ n)) ∧ Up w w' := by
  have HS := Lib.hid hs
  have fC := fldC1
  obtain ⟨d, hd⟩ : ∃ d, X.at_ n = d := ⟨_, rfl⟩
  have H2 := Lib.hid (fun W (h' : SAt W p g X) => sat_op n h' ok hd)
  have hO : X.open_ n = (!d.at_ && (decide (X.start n < 0) || !fP (X.at_ (X.start n)).fa)) := by unfold Spc.open_ Spc.isA; rw [hd]
  rcases start_range ok n with hst | ⟨hst, -⟩
  · have H1 := Lib.hid (fof_none n hs ok hst)
    have hO2 : X.open_ n = !d.at_ := by rw [hO, hst]; simp
    rw [hO2]
    clear hs ok hd hst hO hO2
    obtain ⟨dch, da, dfa, dhi, dco, dse⟩ := d
    simp only at *
    cases da
    all_goals
      go_enter Tryz.func249, Tryz.ntmps249
      go_wp2_with fail
      refine H1.out.mono ?_
      rintro e w1 ⟨rfl, hu1⟩
      have HU1 := Lib.hid hu1
      clear hu1
      go_wp2_with fail
      refine (H2.out _ (HS.out.up (HU1.out.alloc _))).mono ?_
      rintro e w2 ⟨rfl, hu2⟩
      have HU2 := Lib.hid ((HU1.out.alloc _).trans hu2)
      clear hu2
      go_wp2_with fail
      go_ret
      exact ⟨rfl, HU2.out⟩
  · obtain ⟨f, hf⟩ : ∃ f, (X.at_ (X.start n)).fa = f := ⟨_, rfl⟩
    have H1 := Lib.hid (fof_some n hs ok hst hf)
    have hO2 : X.open_ n = (!d.at_ && !fP f) := by rw [hO, hf]; have : ¬ X.start n < 0 := by omega
                                                   simp [this]
    rw [hO2]
    clear hs ok hd hst hO hO2 hf
    obtain ⟨dch, da, dfa, dhi, dco, dse⟩ := d
    simp only at *
    generalize fP f = b0 at *
    generalize fN f = b1 at *
    generalize fD f = b2 at *
    generalize fM f = b3 at *
    cases da
    · go_enter Tryz.func249, Tryz.ntmps249
      go_wp2_with fail
      refine H1.out.mono ?_
      rintro e w1 ⟨rfl, hu1⟩
      have HU1 := Lib.hid hu1
      have z1 := hu1.size
      clear hu1
      go_wp2_with fail
      refine (H2.out _ (HS.out.up (HU1.out.alloc _))).mono ?_
      rintro e w2 ⟨rfl, hu2⟩
      have hb := hu2.at_ w1.heap.size (by simp)
      have k0 := (hb.1 0).trans (by simp [go_sem] : _ = some (.bool b0))
      have HU2 := Lib.hid ((HU1.out.alloc _).trans hu2)
      clear hu2 hb
      go_wp2_with fail
      go_ret
      exact ⟨rfl, HU2.out⟩
    · go_enter Tryz.func249, Tryz.ntmps249
      go_wp2_with fail
      refine H1.out.mono ?_
      rintro e w1 ⟨rfl, hu1⟩
      have HU1 := Lib.hid hu1
      clear hu1
      go_wp2_with fail
      refine (H2.out _ (HS.out.up (HU1.out.alloc _))).mono ?_
      rintro e w2 ⟨rfl, hu2⟩
      have HU2 := Lib.hid ((HU1.out.alloc _).trans hu2)
      clear hu2
      go_wp2_with fail
      go_ret
      exact ⟨rfl, HU2.out⟩
end Go.Proofs.YtamfjgioajmnpaaGreatDoor
namespace Go.Proofs.YtamfjgioajmnpaaGreatDoor
open Go.RowKit
set_option linter.unusedVariables false
set_option linter.unusedSimpArgs false

end Go.Proofs.YtamfjgioajmnpaaGreatDoor
namespace Go.Proofs.YtamfjgioajmnpaaGreatDoor
open Go.RowKit
set_option linter.unusedVariables false
set_option linter.unusedSimpArgs false

theorem Spc.Ok.setL {X : Spc} (ok : X.Ok) (k : Nat) {c : Cl} (hc : c.Wf) (hf : c.fit = c) : (⟨X.model, X.alt, X.r, X.c, X.L.set k c, X.cur⟩ : Spc).Ok := by
  refine ⟨ok.m2, ok.m5, ok.size, by simp; exact ok.len, fun d hd => ?_, fun d hd => ?_, ok.cur0, by simp; exact ok.cur1⟩
  · rcases List.mem_or_eq_of_mem_set hd with h | h
    · exact ok.wf d h
    · rw [h]; exact hc
  · rcases List.mem_or_eq_of_mem_set hd with h | h
    · exact ok.fit d h
    · rw [h]; exact hf
theorem Spc.Ok.set {X : Spc} (ok : X.Ok) (n : Int) {c : Cl} (hc : c.Wf) : (X.set n c).Ok := ok.setL _ (Cl.fit_wf hc) (Cl.fit_fit hc)
theorem Spc.Ok.place {X : Spc} (ok : X.Ok) (n : Int) : (X.place n).Ok := ⟨ok.m2, ok.m5, ok.size, ok.len, ok.wf, ok.fit, by simp [Spc.place], by have := (ok.wrap n).2; simp [Spc.place]; omega⟩
theorem newS_ok {m : Int} (h2 : 2 ≤ m) (h5 : m ≤ 5) : (newS m).Ok := cleared_ok h2 h5 false
end Go.Proofs.YtamfjgioajmnpaaGreatDoor
namespace Go.Proofs.YtamfjgioajmnpaaGreatDoor
open Go.RowKit
set_option linter.unusedVariables false
set_option linter.unusedSimpArgs false

def Cl.mark (d : Cl) : Cl := { d with fa := bits .or .u8 d.fa 1 }
theorem or_tab : ∀ k : Fin 256, 0 ≤ bits .or .u8 (k.val : Int) 1 ∧ bits .or .u8 (k.val : Int) 1 ≤ 255 := by decide +kernel
theorem or_bd {v : Int} (h : isB v) : isB (bits .or .u8 v 1) := by
  have h := or_tab ⟨v.toNat, by have := h.2; omega⟩
  have h0 : ((v.toNat : Nat) : Int) = v := by have := ‹isB v›.1; omega
  simp only [h0] at h
  exact h
theorem Cl.mark_wf {d : Cl} (h : d.Wf) : d.mark.Wf := ⟨h.ch, or_bd h.fa, h.hi, h.co, h.se⟩
/-- a place's field is modified -/
def Spc.modify (X : Spc) (n : Int) : Spc := if 0 ≤ X.start n then X.set (X.start n) (X.at_ (X.start n)).mark else X
theorem Spc.Ok.modify {X : Spc} (ok : X.Ok) (n : Int) : (X.modify n).Ok := by
  unfold Spc.modify
  split
  · exact ok.set _ (Cl.mark_wf (ok.at_wf _))
  · exact ok
theorem sset_op {p g : Nat} {X Y : Spc} {w : World} (n : Int) {d : Cl} {c0 c2 c3 c4 c5 : Int} {c1 : Bool} (hd : d = ⟨c0, c1, c2, c3, c4, c5⟩) (hcw : d.Wf) (h : SAt w p g X) (ok : X.Ok) (hY : X.set n d = Y) :
    Calls Tryz.prog 242 #[.pointer (some ⟨p, 0, none⟩), .int .i64 n, .agg #[.int .u8 c0, .bool c1, .int .u8 c2, .int .u8 c3, .int .u8 c4, .int .u8 c5]] w fun e w' => e = .returned (.tuple #[]) ∧ SAt w' p g Y ∧ Keep (two p g) w w' := by
  subst hd; subst hY
  exact sset_is n _ hcw h ok
set_option maxHeartbeats 1600000 in
theorem fmodify_is {p g : Nat} {X : Spc} {w : World} (n : Int) (hs : SAt w p g X) (ok : X.Ok) :
    Calls Tryz.prog 192 #[.pointer (some ⟨p, 0, none⟩), .int .i64 n] w fun e w' => e = .returned (.bool (decide (0 ≤ X.start n))) ∧ SAt w' p g (X.modify n) ∧ Keep (two p g) w w' := by
  have HS := Lib.hid hs
  have HST := Lib.hid (fstart_is n hs ok)
  have zp := hs.lt
  have zg := hs.cells.2.1
  rcases start_range ok n with h | ⟨h, -⟩
  · have hm : X.modify n = X := by unfold Spc.modify; rw [if_neg (by omega)]
    rw [hm, h]
    rw [h] at HST
    clear hs ok h hm
    go_enter Tryz.func192, Tryz.ntmps192
    go_wp2_with fail
    refine HST.out.mono ?_
    rintro e w1 ⟨rfl, hu1⟩
    have HU1 := Lib.hid hu1
    clear hu1
    go_wp2_with fail
    go_ret
    exact ⟨rfl, HS.out.up HU1.out, Keep.of_up HU1.out⟩
  · obtain ⟨d, hd⟩ : ∃ d, X.at_ (X.start n) = d := ⟨_, rfl⟩
    have hm : X.modify n = X.set (X.start n) d.mark := by unfold Spc.modify; rw [if_pos h, hd]
    have hwf := Cl.mark_wf (ok.at_wf (X.start n))
    rw [hd] at hwf
    have HAT := Lib.hid (fun W (h' : SAt W p g X) => sat_op (X.start n) h' ok hd)
    have HSE := Lib.hid (fun W (h' : SAt W p g X) => sset_op (w := W) (X.start n) (d := d.mark) rfl hwf h' ok hm.symm)
    rw [decide_eq_true h]
    obtain ⟨a, ha⟩ : ∃ a, X.start n = a := ⟨_, rfl⟩
    rw [ha] at HST HAT HSE h
    have hna : (a == -1) = false := by simp; omega
    generalize X.modify n = Y at *
    clear hs ok hd hm hwf ha h
    obtain ⟨dch, da, dfa, dhi, dco, dse⟩ := d
    simp only [Cl.mark] at HSE HAT
    go_enter Tryz.func192, Tryz.ntmps192
    go_wp2_with fail
    refine HST.out.mono ?_
    rintro e w1 ⟨rfl, hu1⟩
    have HU1 := Lib.hid hu1
    clear hu1
    go_wp2_with fail
    refine (HAT.out _ (HS.out.up HU1.out)).mono ?_
    rintro e w2 ⟨rfl, hu2⟩
    have HU2 := Lib.hid (HU1.out.trans hu2)
    clear hu2
    go_wp2_with fail
    refine (HSE.out _ (HS.out.up (HU2.out.alloc _))).mono ?_
    rintro e w3 ⟨rfl, hs3, hk3⟩
    have HS3 := Lib.hid hs3
    have HK3 := Lib.hid hk3
    clear hs3 hk3
    go_wp2_with fail
    go_ret
    exact ⟨rfl, HS3.out, (Keep.of_up (HU2.out.alloc _)).trans HK3.out⟩
end Go.Proofs.YtamfjgioajmnpaaGreatDoor
