/-
  field's Start, first, find, Next, Prev. No condition.
-/
import Derived.Test.YtjokcfenncogkaaPl13
namespace Go.Proofs.Ytjokcfenncogkaa
open Go.RowKit
set_option linter.unusedVariables false
set_option linter.unusedSimpArgs false

/-- a cell at a place, opened -/
theorem sat_op {p g : Nat} {X : Spc} {w : World} (n : Int) (h : SAt w p g X) (ok : X.Ok) {d : Cl} (hd : X.at_ n = d) : Calls Try.prog 27 #[.pointer (some ⟨p, 0, none⟩), .int .i64 n] w fun e w' => e = .returned (.agg #[.int .u8 d.ch, .bool d.at_, .int .u8 d.fa, .int .u8 d.hi, .int .u8 d.co, .int .u8 d.se]) ∧ Up w w' := by
  have := sat_is n h ok
  rw [hd] at this
  exact this
theorem fldC1 (v0 v2 v3 v4 v5 : Value) (b : Bool) (w : World) : (Instr.field 25 (.agg #[v0, .bool b, v2, v3, v4, v5]) 1).run Try.prog w = .ok (.bool b) w := by kernel_rfl
theorem fldC0 (a : Int) (v1 v2 v3 v4 v5 : Value) (w : World) : (Instr.field 25 (.agg #[.int .u8 a, v1, v2, v3, v4, v5]) 0).run Try.prog w = .ok (.int .u8 a) w := by kernel_rfl
theorem fldC2 (a : Int) (v0 v1 v3 v4 v5 : Value) (w : World) : (Instr.field 25 (.agg #[v0, v1, .int .u8 a, v3, v4, v5]) 2).run Try.prog w = .ok (.int .u8 a) w := by kernel_rfl
theorem fldF0 (a : Bool) (v1 v2 v3 : Value) (w : World) : (Instr.field 66 (.agg #[.bool a, v1, v2, v3]) 0).run Try.prog w = .ok (.bool a) w := by kernel_rfl
theorem fldF3 (a : Bool) (v1 v2 v0 : Value) (w : World) : (Instr.field 66 (.agg #[v0, v1, v2, .bool a]) 3).run Try.prog w = .ok (.bool a) w := by kernel_rfl
set_option maxHeartbeats 3200000 in
theorem fstart_is {p g : Nat} {X : Spc} {w : World} (n : Int) (hs : SAt w p g X) (ok : X.Ok) :
    Calls Try.prog 50 #[.pointer (some ⟨p, 0, none⟩), .int .i64 n] w fun e w' => e = .returned (.int .i64 (X.start n)) ∧ Up w w' := by
  have HS := Lib.hid hs
  have HO := Lib.hid ok
  have fC := fldC1
  have HF := Lib.hid (sform_is hs)
  have HV := Lib.hid ok.valid
  have HSZ := Lib.hid (fun W (h : SAt W p g X) => ssize_is h)
  have hm0 := Spc.pos ok
  have hln := ok.len
  have hsm := ok.small
  by_cases hfm : 0 < attrsN X.L
  · rw [decide_eq_true hfm] at HF
    obtain ⟨d, d1, d2, d3, d4⟩ := back_some ok n hfm
    rw [start_some d1]
    have HD3 := Lib.hid d3
    have HD4 := Lib.hid d4
    clear hs ok hfm d1 d3 d4
    have HAT := Lib.hid (fun W (h : SAt W p g X) (j : Nat) => sat_op ((n - j) % (X.r * X.c)) h HO.out (Spc.at_emod X _))
    have HAE := Lib.hid (fun j : Nat => show (X.at_ (n - j)).at_ = X.isA (n - j) from rfl)
    have HWG := Lib.hid (fun n W => wrap_good X.r X.c n W HV.out)
    generalize hM : X.r * X.c = M at *
    have HM := Lib.hid hM
    generalize X.r = r at *
    generalize X.c = c at *
    clear hM
    go_enter Try.func50, Try.ntmps50
    go_wp2_with fail
    refine HF.out.mono ?_
    rintro e w1 ⟨rfl, rfl⟩
    go_wp2_with fail
    refine (HSZ.out _ HS.out).mono ?_
    rintro e w1 ⟨rfl, hb_w1⟩
    have hu_w1 : Up w w1 := by (repeat (first | with_reducible exact Up.refl _ | with_reducible refine Up.alloc ?_ _ | with_reducible refine Up.drew ?_ | with_reducible refine Up.drewN ?_ _ | with_reducible refine Up.setCell ?_ (by (try simp) <;> omega) _ | with_reducible assumption | with_reducible refine Up.trans ?_ (by assumption)))
    have hz_w1 := Up.size hb_w1
    try simp at hz_w1
    go_wp2_with fail
    refine (HWG.out n _).mono ?_
    rintro e w2 ⟨rfl, hb_w2⟩
    have hu_w2 : Up w1 w2 := by (repeat (first | with_reducible exact Up.refl _ | with_reducible refine Up.alloc ?_ _ | with_reducible refine Up.drew ?_ | with_reducible refine Up.drewN ?_ _ | with_reducible refine Up.setCell ?_ (by (try simp) <;> omega) _ | with_reducible assumption | with_reducible refine Up.trans ?_ (by assumption)))
    have hz_w2 := Up.size hb_w2
    try simp at hz_w2
    obtain ⟨bd_w2_0, be_w2_0⟩ := hb_w2.at_ (w1.heap.size) (by (try simp) <;> omega)
    have zb_w2_0 : w1.heap.size < w2.heap.size := by omega
    go_wp2_with fail
    have HU2 := Lib.hid (show Up w w2 by (repeat (first | with_reducible exact Up.refl _ | with_reducible refine Up.alloc ?_ _ | with_reducible refine Up.drew ?_ | with_reducible refine Up.drewN ?_ _ | with_reducible refine Up.setCell ?_ (by (try simp) <;> omega) _ | with_reducible assumption | with_reducible refine Up.trans ?_ (by assumption))))
    have k0 : w2.cell? ⟨w1.heap.size, 0, none⟩ = some (.int .i64 r) := (bd_w2_0 0).trans (by simp [go_sem])
    have k1 : w2.cell? ⟨w1.heap.size, 1, none⟩ = some (.int .i64 c) := (bd_w2_0 1).trans (by simp [go_sem])
    go_loopw [1] (fun i wr => ∃ j : Nat, j ≤ d ∧ i = .int .i64 ((n - j) % M) ∧ Up w2 wr) (fun i _ => ((intOf i - (n - d) % M) % M).toNat)
    case atStart => exact ⟨0, by omega, by simp, Up.refl _⟩
    case round =>
      obtain ⟨j, hj, rfl, huj⟩ := hrel
      have HUJ := Lib.hid huj
      have hb0 := huj.at_ w1.heap.size (by omega)
      have c0 := (hb0.1 0).trans k0
      have c1 := (hb0.1 1).trans k1
      have zr := huj.size
      have hlo : 0 ≤ (n - (j : Int)) % M := Int.emod_nonneg _ (by omega)
      have hhi : (n - (j : Int)) % M < M := Int.emod_lt_of_pos _ hm0
      clear hb0 huj
      obtain ⟨cc, hcc⟩ : ∃ cc, X.at_ (n - j) = cc := ⟨_, rfl⟩
      have HATJ := Lib.hid (HAT.out wr (HS.out.up (HU2.out.trans HUJ.out)) j)
      have HAEJ := Lib.hid (HAE.out j)
      rw [hcc] at HATJ HAEJ
      by_cases hd : j = d
      · subst hd
        have hat : cc.at_ = true := by rw [HAEJ.out]; exact HD3.out
        clear hcc
        rw [hat] at HATJ
        go_wp2_with fail
        refine HATJ.out.mono ?_
        rintro e w3 ⟨rfl, hu3⟩
        go_wp2_with fail
        go_ret
        exact ⟨rfl, HU2.out.trans (HUJ.out.trans hu3)⟩
      · have hat : cc.at_ = false := by rw [HAEJ.out]; exact HD4.out j (by omega)
        clear hcc
        rw [hat] at HATJ
        go_wp2_with fail
        refine HATJ.out.mono ?_
        rintro e w3 ⟨rfl, hu3⟩
        have hb3 := hu3.at_ w1.heap.size (by omega)
        have e0 := (hb3.1 0).trans c0
        have e1 := (hb3.1 1).trans c1
        have z3 := hu3.size
        clear hb3
        go_wp2_with fail
        refine (HWG.out _ _).mono ?_
        rintro e w4 ⟨rfl, hu4⟩
        have HU4 := Lib.hid (show Up w2 w4 from HUJ.out.trans (hu3.trans hu4))
        have he : ((n - (j : Int)) % M - 1) % M = (n - ((j + 1 : Nat) : Int)) % M := by rw [Int.emod_sub_emod]; congr 1; omega
        simp only [he]
        go_wp2_with fail
        go_roundw
        case rel => exact ⟨j + 1, by omega, rfl, HU4.out⟩
        case measure =>
          show ((intOf (.int .i64 ((n - ((j + 1 : Nat) : Int)) % M)) - (n - d) % M) % M).toNat < ((intOf (.int .i64 ((n - (j : Int)) % M)) - (n - d) % M) % M).toNat
          simp only [intOf]
          rw [dist_dn (by omega) (by omega), dist_dn (by omega) (by omega)]
          omega
  · rw [decide_eq_false hfm] at HF
    rw [start_none ok n hfm]
    clear hs ok hfm
    go_enter Try.func50, Try.ntmps50
    go_wp2_with fail
    refine HF.out.mono ?_
    rintro e w1 ⟨rfl, rfl⟩
    go_wp2_with fail
    go_ret
    exact ⟨rfl, Up.refl _⟩
theorem Spc.fa_at {X : Spc} (ok : X.Ok) (n : Int) : 0 ≤ (X.at_ n).fa ∧ (X.at_ n).fa ≤ 255 := by
  have h := ok.at_wf n
  exact ⟨h.fa.1, h.fa.2⟩
set_option maxHeartbeats 1600000 in
theorem ffirst_is {p g : Nat} {X : Spc} {w : World} (n : Int) (hs : SAt w p g X) (ok : X.Ok) (h0 : -9223372036854775807 ≤ n) (h1 : n ≤ 9223372036854775807) :
    Calls Try.prog 156 #[.pointer (some ⟨p, 0, none⟩), .int .i64 n] w fun e w' => e = .returned (.bool (X.fst n)) ∧ Up w w' := by
  have HS := Lib.hid hs
  have fC := fldC1
  have fF := fldF0
  obtain ⟨d, hd⟩ : ∃ d, X.at_ (n - 1) = d := ⟨_, rfl⟩
  obtain ⟨d2, hd2⟩ : ∃ d, X.at_ n = d := ⟨_, rfl⟩
  have hfa := Spc.fa_at ok (n - 1)
  have HA := Lib.hid (sat_op (n - 1) hs ok hd)
  have HA2 := Lib.hid (fun W (h : SAt W p g X) => sat_op n h ok hd2)
  have hres : X.fst n = (d.at_ && !d2.at_ && !fP d.fa) := by unfold Spc.fst Spc.isA; rw [hd, hd2]
  rw [hd] at hfa
  rw [hres]
  obtain ⟨f0, f1⟩ := hfa
  have HOF := Lib.hid (fun W => of_any d.fa W f0 f1)
  clear hs ok hd hd2 hres
  obtain ⟨ch, at_, fa, hi, co, se⟩ := d
  obtain ⟨ch2, at2, fa2, hi2, co2, se2⟩ := d2
  simp only at *
  cases at_
  · go_enter Try.func156, Try.ntmps156
    go_wp2_with fail
    refine HA.out.mono ?_
    rintro e w1 ⟨rfl, hu1⟩
    have HU1 := Lib.hid hu1
    have z1 := hu1.size
    go_wp2_with fail
    go_ret
    exact ⟨rfl, HU1.out.alloc _⟩
  · cases at2
    · go_enter Try.func156, Try.ntmps156
      go_wp2_with fail
      refine HA.out.mono ?_
      rintro e w1 ⟨rfl, hu1⟩
      have HU1 := Lib.hid hu1
      have z1 := hu1.size
      go_wp2_with fail
      refine (HA2.out _ (HS.out.up (HU1.out.alloc _))).mono ?_
      rintro e w2 ⟨rfl, hu2⟩
      have hb := hu2.at_ w1.heap.size (by simp)
      have b2 := (hb.1 2).trans (by simp [go_sem] : _ = some (.int .u8 fa))
      have HU2 := Lib.hid (show Up w w2 from (HU1.out.alloc _).trans hu2)
      clear hb hu2
      go_wp2_with fail
      refine (HOF.out _).mono ?_
      rintro e w3 ⟨rfl, hu3⟩
      go_wp2_with fail
      go_ret
      exact ⟨rfl, HU2.out.trans hu3⟩
    · go_enter Try.func156, Try.ntmps156
      go_wp2_with fail
      refine HA.out.mono ?_
      rintro e w1 ⟨rfl, hu1⟩
      have HU1 := Lib.hid hu1
      have z1 := hu1.size
      go_wp2_with fail
      refine (HA2.out _ (HS.out.up (HU1.out.alloc _))).mono ?_
      rintro e w2 ⟨rfl, hu2⟩
      have hb := hu2.at_ w1.heap.size (by simp)
      have b2 := (hb.1 2).trans (by simp [go_sem] : _ = some (.int .u8 fa))
      have HU2 := Lib.hid (show Up w w2 from (HU1.out.alloc _).trans hu2)
      clear hb hu2
      go_wp2_with fail
      go_ret
      exact ⟨rfl, HU2.out⟩
set_option maxHeartbeats 3200000 in
theorem ffind_is {p g : Nat} {X : Spc} {w : World} (n s : Int) (hs : SAt w p g X) (ok : X.Ok) (h0 : 0 ≤ n) (h1 : n < X.r * X.c) (s0 : -1 ≤ s) (s1 : s ≤ 1) :
    Calls Try.prog 119 #[.pointer (some ⟨p, 0, none⟩), .int .i64 n, .int .i64 s] w fun e w' => e = .returned (.int .i64 (X.find n s)) ∧ Up w w' := by
  have HS := Lib.hid hs
  have HO := Lib.hid ok
  have HV := Lib.hid ok.valid
  have HSZ := Lib.hid (fun W (h : SAt W p g X) => ssize_is h)
  have hm0 := Spc.pos ok
  have hln := ok.len
  have hsm := ok.small
  have HFI := Lib.hid (fun W (h : SAt W p g X) (j : Nat) => ffirst_is ((n + s * ((j : Int) + 1)) % (X.r * X.c)) h HO.out (by have := Int.emod_nonneg (n + s * ((j : Int) + 1)) (show X.r * X.c ≠ 0 by omega); omega) (by have := Int.emod_lt_of_pos (n + s * ((j : Int) + 1)) hm0; omega))
  have HFE := Lib.hid (fun j : Nat => show X.fst ((n + s * ((j : Int) + 1)) % (X.r * X.c)) = X.fst (n + s * ((j : Int) + 1)) from fst_congr (by simp))
  have HCG := Lib.hid (fun W => cells_good X.r X.c W HV.out)
  have HWG := Lib.hid (fun n W => wrap_good X.r X.c n W HV.out)
  have HFD := Lib.hid (show X.find n s = match X.far n s with | some d => (n + s * (d + 1)) % (X.r * X.c) | none => -1 from rfl)
  obtain ⟨m, hm⟩ : ∃ m, X.L.length = m := ⟨_, rfl⟩
  have HFS := Lib.hid (fun d : Nat => show d < m → X.fst (n + s * ((d : Int) + 1)) = true → (∀ j : Nat, j < d → X.fst (n + s * ((j : Int) + 1)) = false) → X.far n s = some d from fun h1 h2 h3 => least_some.2 ⟨by omega, h2, h3⟩)
  have HFN := Lib.hid (show (∀ j : Nat, j < m → X.fst (n + s * ((j : Int) + 1)) = false) → X.far n s = none from fun h => least_none.2 fun j hj => h j (by omega))
  rw [hm] at hln hsm
  rw [← hln] at HCG hm0 h1
  clear hs ok hm
  generalize hM : X.r * X.c = M at *
  have HL := Lib.hid hln
  subst hln
  generalize X.r = r at *
  generalize X.c = c at *
  generalize X.find n s = res at *
  clear hM
  have hn2 : 0 ≤ n % (m : Int) := Int.emod_nonneg _ (by omega)
  have hn3 : n % (m : Int) = n := Int.emod_eq_of_lt h0 h1
  go_enter Try.func119, Try.ntmps119
  go_wp2_with fail
  refine (HSZ.out _ HS.out).mono ?_
  rintro e w1 ⟨rfl, hb_w1⟩
  have hu_w1 : Up w w1 := by (repeat (first | with_reducible exact Up.refl _ | with_reducible refine Up.alloc ?_ _ | with_reducible refine Up.drew ?_ | with_reducible refine Up.drewN ?_ _ | with_reducible refine Up.setCell ?_ (by (try simp) <;> omega) _ | with_reducible assumption | with_reducible refine Up.trans ?_ (by assumption)))
  have hz_w1 := Up.size hb_w1
  try simp at hz_w1
  go_wp2_with fail
  refine (HCG.out _).mono ?_
  rintro e w2 ⟨rfl, hb_w2⟩
  have hu_w2 : Up w1 w2 := by (repeat (first | with_reducible exact Up.refl _ | with_reducible refine Up.alloc ?_ _ | with_reducible refine Up.drew ?_ | with_reducible refine Up.drewN ?_ _ | with_reducible refine Up.setCell ?_ (by (try simp) <;> omega) _ | with_reducible assumption | with_reducible refine Up.trans ?_ (by assumption)))
  have hz_w2 := Up.size hb_w2
  try simp at hz_w2
  obtain ⟨bd_w2_0, be_w2_0⟩ := hb_w2.at_ (w1.heap.size) (by (try simp) <;> omega)
  have zb_w2_0 : w1.heap.size < w2.heap.size := by omega
  go_wp2_with fail
  have HU2 := Lib.hid (show Up w w2 by (repeat (first | with_reducible exact Up.refl _ | with_reducible refine Up.alloc ?_ _ | with_reducible refine Up.drew ?_ | with_reducible refine Up.drewN ?_ _ | with_reducible refine Up.setCell ?_ (by (try simp) <;> omega) _ | with_reducible assumption | with_reducible refine Up.trans ?_ (by assumption))))
  have k0 : w2.cell? ⟨w1.heap.size, 0, none⟩ = some (.int .i64 r) := (bd_w2_0 0).trans (by simp [go_sem])
  have k1 : w2.cell? ⟨w1.heap.size, 1, none⟩ = some (.int .i64 c) := (bd_w2_0 1).trans (by simp [go_sem])
  go_loopw [1, 12] (fun v i wr => ∃ j : Nat, j ≤ m ∧ v = .int .i64 ((n + s * (j : Int)) % m) ∧ i = .int .i64 (j : Int) ∧ (∀ k : Nat, k < j → X.fst (n + s * ((k : Int) + 1)) = false) ∧ Up w2 wr) (fun _ i _ => m - (intOf i).toNat)
  case atStart => exact ⟨0, by omega, by simp [hn3], rfl, by omega, Up.refl _⟩
  case round =>
    obtain ⟨j, hj, rfl, rfl, hall, huj⟩ := hrel
    have HUJ := Lib.hid huj
    have HAL := Lib.hid hall
    have hb0 := huj.at_ w1.heap.size (by omega)
    have c0 := (hb0.1 0).trans k0
    have c1 := (hb0.1 1).trans k1
    have zr := huj.size
    have hlo : 0 ≤ (n + s * (j : Int)) % (m : Int) := Int.emod_nonneg _ (by omega)
    have hhi : (n + s * (j : Int)) % (m : Int) < (m : Int) := Int.emod_lt_of_pos _ (by omega)
    have HE := Lib.hid (show ((n + s * (j : Int)) % (m : Int) + s) % (m : Int) = (n + s * ((j : Int) + 1)) % (m : Int) by rw [Int.emod_add_emod]; congr 1; rw [Int.mul_add]; omega)
    clear hb0 huj hall
    by_cases hlt : j < m
    · have hjm : (j : Int) < (m : Int) := by omega
      obtain ⟨v, hv⟩ : ∃ v, (n + s * (j : Int)) % (m : Int) = v := ⟨_, rfl⟩
      rw [hv] at hlo hhi HE ⊢
      clear hv
      go_wp2_with fail
      refine (HWG.out _ _).mono ?_
      rintro e w3 ⟨rfl, hu3⟩
      rw [HE.out]
      have HU3 := Lib.hid (HUJ.out.trans hu3)
      obtain ⟨v2, hv2⟩ : ∃ v2, (n + s * ((j : Int) + 1)) % (m : Int) = v2 := ⟨_, rfl⟩
      have HV2 := Lib.hid hv2
      have HFJ := Lib.hid (HFI.out w3 (HS.out.up (HU2.out.trans HU3.out)) j)
      rw [HFE.out, hv2] at HFJ
      have z3 := hu3.size
      have hb3 := hu3.at_ w1.heap.size (by omega)
      have e0 := (hb3.1 0).trans c0
      have e1 := (hb3.1 1).trans c1
      rw [hv2]
      clear hv2 hu3 hb3
      obtain ⟨b, hb⟩ : ∃ b, X.fst (n + s * ((j : Int) + 1)) = b := ⟨_, rfl⟩
      have HB := Lib.hid hb
      rw [hb] at HFJ
      clear hb
      cases b
      · go_wp2_with fail
        refine HFJ.out.mono ?_
        rintro e w4 ⟨rfl, hu4⟩
        have HU4 := Lib.hid (HU3.out.trans hu4)
        go_wp2_with fail
        go_roundw
        case rel => exact ⟨j + 1, by omega, by rw [← HV2.out]; congr 2, by go_num, fun k hk => by
          rcases Nat.lt_or_ge k j with h | h
          · exact HAL.out k h
          · obtain rfl : k = j := by omega
            exact HB.out, HU4.out⟩
        case measure => simp [intOf]; omega
      · go_wp2_with fail
        refine HFJ.out.mono ?_
        rintro e w4 ⟨rfl, hu4⟩
        have HU4 := Lib.hid (HU3.out.trans hu4)
        have HRS := Lib.hid (show res = v2 by
          have h := HFD.out
          rw [HFS.out j hlt HB.out HAL.out] at h
          rw [h, ← HV2.out])
        go_wp2_with fail
        go_ret
        exact ⟨by rw [HRS.out]; rfl, HU2.out.trans HU4.out⟩
    · obtain rfl : j = m := by omega
      have HRS := Lib.hid (show res = -1 by
        have h := HFD.out
        rw [HFN.out HAL.out] at h
        exact h)
      go_wp2_with fail
      go_ret
      exact ⟨by rw [HRS.out]; rfl, HU2.out.trans HUJ.out⟩
theorem fnext_is {p g : Nat} {X : Spc} {w : World} (n : Int) (hs : SAt w p g X) (ok : X.Ok) :
    Calls Try.prog 38 #[.pointer (some ⟨p, 0, none⟩), .int .i64 n] w fun e w' => e = .returned (.int .i64 (X.find n 1)) ∧ Up w w' := by
  have HS := Lib.hid hs
  have HSZ := Lib.hid (ssize_is hs)
  have hm0 := Spc.pos ok
  have HWG := Lib.hid (fun W => wrap_good X.r X.c n W ok.valid)
  have HFD := Lib.hid (fun W (h : SAt W p g X) => ffind_is (n % (X.r * X.c)) 1 h ok (Int.emod_nonneg _ (by omega)) (Int.emod_lt_of_pos _ hm0) (by omega) (by omega))
  rw [find_emod] at HFD
  generalize X.r * X.c = M at *
  generalize X.find n 1 = res at *
  generalize X.r = r at *
  generalize X.c = c at *
  clear hs ok
  go_enter Try.func38, Try.ntmps38
  go_wp2_with fail
  refine (HSZ.out).mono ?_
  rintro e w1 ⟨rfl, hb_w1⟩
  have hu_w1 : Up w w1 := by (repeat (first | with_reducible exact Up.refl _ | with_reducible refine Up.alloc ?_ _ | with_reducible refine Up.drew ?_ | with_reducible refine Up.drewN ?_ _ | with_reducible refine Up.setCell ?_ (by (try simp) <;> omega) _ | with_reducible assumption | with_reducible refine Up.trans ?_ (by assumption)))
  have hz_w1 := Up.size hb_w1
  try simp at hz_w1
  go_wp2_with fail
  refine (HWG.out _).mono ?_
  rintro e w2 ⟨rfl, hb_w2⟩
  have hu_w2 : Up w1 w2 := by (repeat (first | with_reducible exact Up.refl _ | with_reducible refine Up.alloc ?_ _ | with_reducible refine Up.drew ?_ | with_reducible refine Up.drewN ?_ _ | with_reducible refine Up.setCell ?_ (by (try simp) <;> omega) _ | with_reducible assumption | with_reducible refine Up.trans ?_ (by assumption)))
  have hz_w2 := Up.size hb_w2
  try simp at hz_w2
  go_wp2_with fail
  refine (HFD.out _ (HS.out.up (by (repeat (first | with_reducible exact Up.refl _ | with_reducible refine Up.alloc ?_ _ | with_reducible refine Up.drew ?_ | with_reducible refine Up.drewN ?_ _ | with_reducible refine Up.setCell ?_ (by (try simp) <;> omega) _ | with_reducible assumption | with_reducible refine Up.trans ?_ (by assumption)))))).mono ?_
  rintro e w3 ⟨rfl, hb_w3⟩
  have hu_w3 : Up w2 w3 := by (repeat (first | with_reducible exact Up.refl _ | with_reducible refine Up.alloc ?_ _ | with_reducible refine Up.drew ?_ | with_reducible refine Up.drewN ?_ _ | with_reducible refine Up.setCell ?_ (by (try simp) <;> omega) _ | with_reducible assumption | with_reducible refine Up.trans ?_ (by assumption)))
  have hz_w3 := Up.size hb_w3
  try simp at hz_w3
  go_wp2_with fail
  go_ret
  exact ⟨rfl, by (repeat (first | with_reducible exact Up.refl _ | with_reducible refine Up.alloc ?_ _ | with_reducible refine Up.drew ?_ | with_reducible refine Up.drewN ?_ _ | with_reducible refine Up.setCell ?_ (by (try simp) <;> omega) _ | with_reducible assumption | with_reducible refine Up.trans ?_ (by assumption)))⟩
theorem fprev_is {p g : Nat} {X : Spc} {w : World} (n : Int) (hs : SAt w p g X) (ok : X.Ok) :
    Calls Try.prog 39 #[.pointer (some ⟨p, 0, none⟩), .int .i64 n] w fun e w' => e = .returned (.int .i64 (X.find n (-1))) ∧ Up w w' := by
  have HS := Lib.hid hs
  have HSZ := Lib.hid (ssize_is hs)
  have hm0 := Spc.pos ok
  have HWG := Lib.hid (fun W => wrap_good X.r X.c n W ok.valid)
  have HFD := Lib.hid (fun W (h : SAt W p g X) => ffind_is (n % (X.r * X.c)) (-1) h ok (Int.emod_nonneg _ (by omega)) (Int.emod_lt_of_pos _ hm0) (by omega) (by omega))
  rw [find_emod] at HFD
  generalize X.r * X.c = M at *
  generalize X.find n (-1) = res at *
  generalize X.r = r at *
  generalize X.c = c at *
  clear hs ok
  go_enter Try.func39, Try.ntmps39
  go_wp2_with fail
  refine (HSZ.out).mono ?_
  rintro e w1 ⟨rfl, hb_w1⟩
  have hu_w1 : Up w w1 := by (repeat (first | with_reducible exact Up.refl _ | with_reducible refine Up.alloc ?_ _ | with_reducible refine Up.drew ?_ | with_reducible refine Up.drewN ?_ _ | with_reducible refine Up.setCell ?_ (by (try simp) <;> omega) _ | with_reducible assumption | with_reducible refine Up.trans ?_ (by assumption)))
  have hz_w1 := Up.size hb_w1
  try simp at hz_w1
  go_wp2_with fail
  refine (HWG.out _).mono ?_
  rintro e w2 ⟨rfl, hb_w2⟩
  have hu_w2 : Up w1 w2 := by (repeat (first | with_reducible exact Up.refl _ | with_reducible refine Up.alloc ?_ _ | with_reducible refine Up.drew ?_ | with_reducible refine Up.drewN ?_ _ | with_reducible refine Up.setCell ?_ (by (try simp) <;> omega) _ | with_reducible assumption | with_reducible refine Up.trans ?_ (by assumption)))
  have hz_w2 := Up.size hb_w2
  try simp at hz_w2
  go_wp2_with fail
  refine (HFD.out _ (HS.out.up (by (repeat (first | with_reducible exact Up.refl _ | with_reducible refine Up.alloc ?_ _ | with_reducible refine Up.drew ?_ | with_reducible refine Up.drewN ?_ _ | with_reducible refine Up.setCell ?_ (by (try simp) <;> omega) _ | with_reducible assumption | with_reducible refine Up.trans ?_ (by assumption)))))).mono ?_
  rintro e w3 ⟨rfl, hb_w3⟩
  have hu_w3 : Up w2 w3 := by (repeat (first | with_reducible exact Up.refl _ | with_reducible refine Up.alloc ?_ _ | with_reducible refine Up.drew ?_ | with_reducible refine Up.drewN ?_ _ | with_reducible refine Up.setCell ?_ (by (try simp) <;> omega) _ | with_reducible assumption | with_reducible refine Up.trans ?_ (by assumption)))
  have hz_w3 := Up.size hb_w3
  try simp at hz_w3
  go_wp2_with fail
  go_ret
  exact ⟨rfl, by (repeat (first | with_reducible exact Up.refl _ | with_reducible refine Up.alloc ?_ _ | with_reducible refine Up.drew ?_ | with_reducible refine Up.drewN ?_ _ | with_reducible refine Up.setCell ?_ (by (try simp) <;> omega) _ | with_reducible assumption | with_reducible refine Up.trans ?_ (by assumption)))⟩
end Go.Proofs.Ytjokcfenncogkaa
