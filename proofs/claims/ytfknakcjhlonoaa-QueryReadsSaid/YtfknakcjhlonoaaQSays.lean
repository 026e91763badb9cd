/-
  What query says of each code. Conditions: a size of the models, a page or none, its number within two bytes.
-/
import Derived.Test.YtfknakcjhlonoaaQTwo
import Derived.Deep.RegionHeld3
import Derived.Deep.CutRange
namespace Go.Proofs.Ytfknakcjhlonoaa
open Go.RowKit
set_option linter.unusedVariables false
set_option linter.unusedSimpArgs false

theorem SPost.of {w w' : World} {L : List Int} {e : Ending} {A : Option Addr} {c n : Nat} (he : e = .returned (.slice A n c)) (hn : L.length = n) (hs : Sl w.heap.size w' A n c L) (hu : Up w w') : SPost w L e w' := by
  subst hn; exact ⟨A, c, he, hs, hu⟩
/-- the two numbers of a size, ready -/
def Two2 (w : World) (rows cols : Int) (v7 v8 : Value) (wx : World) : Prop :=
  ∃ A7 c7 A8 c8, v7 = .slice A7 2 c7 ∧ v8 = .slice A8 2 c8 ∧ Sl 0 wx A7 2 c7 (twoL rows) ∧ Sl 0 wx A8 2 c8 (twoL cols) ∧ Up w wx ∧ w.heap.size < wx.heap.size ∧ wx.cell? ⟨w.heap.size, 0, none⟩ = some (.int .i64 rows) ∧ wx.cell? ⟨w.heap.size, 1, none⟩ = some (.int .i64 cols)
set_option maxRecDepth 100000 in
set_option maxHeartbeats 6400000 in
theorem says_128 (rows cols k : Int) (pv : Value) (w : World) (hd : isDim rows cols) (hp : PgV w pv k) (hk : 0 ≤ k ∧ k ≤ 65535) :
    Calls Try.prog 38 #[.int .u8 128, .agg #[.int .i64 rows, .int .i64 cols], pv] w (SPost w (codesL)) := by
  obtain ⟨⟨r0, r1⟩, ⟨q0, q1⟩, hrc⟩ := hd.bd
  have HD := Lib.hid hd
  have HP := Lib.hid hp
  have HRC := Lib.hid hrc
  have HK := Lib.hid hk
  clear hd hp hrc hk
  have b0 : (w.alloc (.cells #[.int .i64 rows, .int .i64 cols] 101)).cell? ⟨w.heap.size, 0, none⟩ = some (.int .i64 rows) := by simp
  have b1 : (w.alloc (.cells #[.int .i64 rows, .int .i64 cols] 101)).cell? ⟨w.heap.size, 1, none⟩ = some (.int .i64 cols) := by simp
  have B0 := Lib.hid b0
  have B1 := Lib.hid b1
  clear b0 b1
  go_enter Try.func38, Try.ntmps38
  go_upto_region 1 with (fail)
  go_cut [7, 8] from 9 to 14 (fun v7 v8 wx => Two2 w rows cols v7 v8 wx)
  case first =>
    go_region_held3 (fun w' => w'.cell? ⟨w.heap.size, 0, none⟩ = some (.int .i64 rows) ∧ w'.cell? ⟨w.heap.size, 1, none⟩ = some (.int .i64 cols)) (first | done | exact ⟨B0.out, B1.out⟩ | exact ⟨t0R, t1R⟩ | exact ⟨t0C, t1C⟩ | exact B0.out | exact B1.out | exact t0R | exact t1R | exact t0C | exact t1C | fail) (first | (go_at_call_of 42 (Value.int IntKind.i64 rows); refine (two_is rows _ ⟨r0, r1⟩).mono ?_; rintro e wR ⟨AR, cR, rfl, hsR, huR⟩; have t0R : wR.cell? ⟨w.heap.size, 0, none⟩ = some (.int .i64 rows) := (by first | exact ((huR.at_ w.heap.size (by simp)).1 0).trans B0.out | exact ((huR.at_ w.heap.size (cell_lt t0C)).1 0).trans t0C | fail); have t1R : wR.cell? ⟨w.heap.size, 1, none⟩ = some (.int .i64 cols) := (by first | exact ((huR.at_ w.heap.size (by simp)).1 1).trans B1.out | exact ((huR.at_ w.heap.size (cell_lt t1C)).1 1).trans t1C | fail)) | (go_at_call_of 42 (Value.int IntKind.i64 cols); refine (two_is cols _ ⟨q0, q1⟩).mono ?_; rintro e wC ⟨AC, cC, rfl, hsC, huC⟩; have t0C : wC.cell? ⟨w.heap.size, 0, none⟩ = some (.int .i64 rows) := (by first | exact ((huC.at_ w.heap.size (by simp)).1 0).trans B0.out | exact ((huC.at_ w.heap.size (cell_lt t0R)).1 0).trans t0R | fail); have t1C : wC.cell? ⟨w.heap.size, 1, none⟩ = some (.int .i64 cols) := (by first | exact ((huC.at_ w.heap.size (by simp)).1 1).trans B1.out | exact ((huC.at_ w.heap.size (cell_lt t1R)).1 1).trans t1R | fail)))
    all_goals
      go_wp2_with fail
      go_meet
      case rel =>
        first
          | (have hU : Up (w.alloc (.cells #[.int .i64 rows, .int .i64 cols] 101)) wC := ((Up.refl _).drew.trans huR).trans huC
             have hz := hU.size
             exact ⟨AR, cR, AC, cC, rfl, rfl, (hsR.up huC).low (Nat.zero_le _), hsC.low (Nat.zero_le _), ((Up.refl w).alloc _).trans hU, by simp at hz; omega, ((hU.at_ w.heap.size (by simp)).1 0).trans B0.out, ((hU.at_ w.heap.size (by simp)).1 1).trans B1.out⟩)
          | (have hU : Up (w.alloc (.cells #[.int .i64 rows, .int .i64 cols] 101)) wR := ((Up.refl _).drew.trans huC).trans huR
             have hz := hU.size
             exact ⟨AR, cR, AC, cC, rfl, rfl, hsR.low (Nat.zero_le _), (hsC.up huR).low (Nat.zero_le _), ((Up.refl w).alloc _).trans hU, by simp at hz; omega, ((hU.at_ w.heap.size (by simp)).1 0).trans B0.out, ((hU.at_ w.heap.size (by simp)).1 1).trans B1.out⟩)
  case rest =>
    obtain ⟨A7, c7, A8, c8, rfl, rfl, s7, s8, uw, zw, d0, d1⟩ := hcut
    have S7 := Lib.hid s7
    have S8 := Lib.hid s8
    have UW := Lib.hid uw
    have zz := uw.size
    clear s7 s8 uw
    go_wp2_with (go_at_call 23; refine (qcodes_is _).mono ?_; rintro e wB ⟨AB, cB, rfl, hsB, huB⟩)
    go_ret
    exact SPost.of rfl rfl (hsB.low zz) (UW.out.trans huB)
set_option maxRecDepth 100000 in
set_option maxHeartbeats 6400000 in
theorem says_129 (rows cols k : Int) (pv : Value) (w : World) (hd : isDim rows cols) (hp : PgV w pv k) (hk : 0 ≤ k ∧ k ≤ 65535) :
    Calls Try.prog 38 #[.int .u8 129, .agg #[.int .i64 rows, .int .i64 cols], pv] w (SPost w (([1, 0] : List Int) ++ twoL cols ++ twoL rows ++ ([1, 0, 10, 2, 229, 0, 2, 0, 111, 9, 12] : List Int) ++ twoL (rows * cols))) := by
  obtain ⟨⟨r0, r1⟩, ⟨q0, q1⟩, hrc⟩ := hd.bd
  have HD := Lib.hid hd
  have HP := Lib.hid hp
  have HRC := Lib.hid hrc
  have HK := Lib.hid hk
  clear hd hp hrc hk
  have b0 : (w.alloc (.cells #[.int .i64 rows, .int .i64 cols] 101)).cell? ⟨w.heap.size, 0, none⟩ = some (.int .i64 rows) := by simp
  have b1 : (w.alloc (.cells #[.int .i64 rows, .int .i64 cols] 101)).cell? ⟨w.heap.size, 1, none⟩ = some (.int .i64 cols) := by simp
  have B0 := Lib.hid b0
  have B1 := Lib.hid b1
  clear b0 b1
  go_enter Try.func38, Try.ntmps38
  go_upto_region 1 with (fail)
  go_cut [7, 8] from 9 to 14 (fun v7 v8 wx => Two2 w rows cols v7 v8 wx)
  case first =>
    go_region_held3 (fun w' => w'.cell? ⟨w.heap.size, 0, none⟩ = some (.int .i64 rows) ∧ w'.cell? ⟨w.heap.size, 1, none⟩ = some (.int .i64 cols)) (first | done | exact ⟨B0.out, B1.out⟩ | exact ⟨t0R, t1R⟩ | exact ⟨t0C, t1C⟩ | exact B0.out | exact B1.out | exact t0R | exact t1R | exact t0C | exact t1C | fail) (first | (go_at_call_of 42 (Value.int IntKind.i64 rows); refine (two_is rows _ ⟨r0, r1⟩).mono ?_; rintro e wR ⟨AR, cR, rfl, hsR, huR⟩; have t0R : wR.cell? ⟨w.heap.size, 0, none⟩ = some (.int .i64 rows) := (by first | exact ((huR.at_ w.heap.size (by simp)).1 0).trans B0.out | exact ((huR.at_ w.heap.size (cell_lt t0C)).1 0).trans t0C | fail); have t1R : wR.cell? ⟨w.heap.size, 1, none⟩ = some (.int .i64 cols) := (by first | exact ((huR.at_ w.heap.size (by simp)).1 1).trans B1.out | exact ((huR.at_ w.heap.size (cell_lt t1C)).1 1).trans t1C | fail)) | (go_at_call_of 42 (Value.int IntKind.i64 cols); refine (two_is cols _ ⟨q0, q1⟩).mono ?_; rintro e wC ⟨AC, cC, rfl, hsC, huC⟩; have t0C : wC.cell? ⟨w.heap.size, 0, none⟩ = some (.int .i64 rows) := (by first | exact ((huC.at_ w.heap.size (by simp)).1 0).trans B0.out | exact ((huC.at_ w.heap.size (cell_lt t0R)).1 0).trans t0R | fail); have t1C : wC.cell? ⟨w.heap.size, 1, none⟩ = some (.int .i64 cols) := (by first | exact ((huC.at_ w.heap.size (by simp)).1 1).trans B1.out | exact ((huC.at_ w.heap.size (cell_lt t1R)).1 1).trans t1R | fail)))
    all_goals
      go_wp2_with fail
      go_meet
      case rel =>
        first
          | (have hU : Up (w.alloc (.cells #[.int .i64 rows, .int .i64 cols] 101)) wC := ((Up.refl _).drew.trans huR).trans huC
             have hz := hU.size
             exact ⟨AR, cR, AC, cC, rfl, rfl, (hsR.up huC).low (Nat.zero_le _), hsC.low (Nat.zero_le _), ((Up.refl w).alloc _).trans hU, by simp at hz; omega, ((hU.at_ w.heap.size (by simp)).1 0).trans B0.out, ((hU.at_ w.heap.size (by simp)).1 1).trans B1.out⟩)
          | (have hU : Up (w.alloc (.cells #[.int .i64 rows, .int .i64 cols] 101)) wR := ((Up.refl _).drew.trans huC).trans huR
             have hz := hU.size
             exact ⟨AR, cR, AC, cC, rfl, rfl, hsR.low (Nat.zero_le _), (hsC.up huR).low (Nat.zero_le _), ((Up.refl w).alloc _).trans hU, by simp at hz; omega, ((hU.at_ w.heap.size (by simp)).1 0).trans B0.out, ((hU.at_ w.heap.size (by simp)).1 1).trans B1.out⟩)
  case rest =>
    obtain ⟨A7, c7, A8, c8, rfl, rfl, s7, s8, uw, zw, d0, d1⟩ := hcut
    have S7 := Lib.hid s7
    have S8 := Lib.hid s8
    have UW := Lib.hid uw
    have zz := uw.size
    clear s7 s8 uw
    go_wp2_with (first | (go_at_call 44; refine (cells_is rows cols _ HD.out).mono ?_; rintro e wA ⟨rfl, huA⟩) | (go_at_call 42; refine (two_is (rows * cols) _ HRC.out).mono ?_; rintro e wB ⟨AB, cB, rfl, hsB, huB⟩) | (go_at_call 43; refine (concat_is (xs := [(some ⟨wc.heap.size, 0, none⟩, 2, [1, 0]), (A8, c8, twoL cols), (A7, c7, twoL rows), (some ⟨wc.heap.size + 1, 0, none⟩, 11, [1, 0, 10, 2, 229, 0, 2, 0, 111, 9, 12]), (AB, cB, twoL (rows * cols))]) (fl_lit wB _ (by
      intro x hx
      simp only [List.mem_cons, List.mem_nil_iff, or_false] at hx
      rcases hx with rfl | rfl | rfl | rfl | rfl
      · exact ((sl_lit wc [1, 0] (by unfold BL; decide) (by simp) 2 (wc.heap.size) (by first | rfl | simp) #[.int .u8 1, .int .u8 0] rfl rfl).low (Nat.zero_le _)).up (by (repeat (first | with_reducible exact Up.refl _ | with_reducible refine Up.alloc ?_ _ | with_reducible refine Up.drew ?_ | with_reducible refine Up.drewN ?_ _ | with_reducible refine Up.setCell ?_ (by (try simp) <;> omega) _ | with_reducible assumption | with_reducible refine Up.trans ?_ (by assumption))))
      · exact S8.out.up (by have := UW.out; (repeat (first | with_reducible exact Up.refl _ | with_reducible refine Up.alloc ?_ _ | with_reducible refine Up.drew ?_ | with_reducible refine Up.drewN ?_ _ | with_reducible refine Up.setCell ?_ (by (try simp) <;> omega) _ | with_reducible assumption | with_reducible refine Up.trans ?_ (by assumption))))
      · exact S7.out.up (by have := UW.out; (repeat (first | with_reducible exact Up.refl _ | with_reducible refine Up.alloc ?_ _ | with_reducible refine Up.drew ?_ | with_reducible refine Up.drewN ?_ _ | with_reducible refine Up.setCell ?_ (by (try simp) <;> omega) _ | with_reducible assumption | with_reducible refine Up.trans ?_ (by assumption))))
      · exact ((sl_lit (wc.alloc (.cells #[.int .u8 1, .int .u8 0] 5)) [1, 0, 10, 2, 229, 0, 2, 0, 111, 9, 12] (by unfold BL; decide) (by simp) 11 (wc.heap.size + 1) (by first | rfl | simp) #[.int .u8 1, .int .u8 0, .int .u8 10, .int .u8 2, .int .u8 229, .int .u8 0, .int .u8 2, .int .u8 0, .int .u8 111, .int .u8 9, .int .u8 12] rfl rfl).low (Nat.zero_le _)).up (by (repeat (first | with_reducible exact Up.refl _ | with_reducible refine Up.alloc ?_ _ | with_reducible refine Up.drew ?_ | with_reducible refine Up.drewN ?_ _ | with_reducible refine Up.setCell ?_ (by (try simp) <;> omega) _ | with_reducible assumption | with_reducible refine Up.trans ?_ (by assumption))))
      · exact hsB.low (Nat.zero_le _) |>.up (by (repeat (first | with_reducible exact Up.refl _ | with_reducible refine Up.alloc ?_ _ | with_reducible refine Up.drew ?_ | with_reducible refine Up.drewN ?_ _ | with_reducible refine Up.setCell ?_ (by (try simp) <;> omega) _ | with_reducible assumption | with_reducible refine Up.trans ?_ (by assumption))))) (by simp) _ _ (by (try simp)) _ rfl rfl) rfl (by simp [cat, twoL, colL]) (by simp [cat, twoL, colL])).mono ?_; rintro e wZ ⟨AZ, cZ, rfl, hsZ, -, huZ⟩))
    have hcat : cat [(some ⟨wc.heap.size, 0, none⟩, 2, [1, 0]), (A8, c8, twoL cols), (A7, c7, twoL rows), (some ⟨wc.heap.size + 1, 0, none⟩, 11, [1, 0, 10, 2, 229, 0, 2, 0, 111, 9, 12]), (AB, cB, twoL (rows * cols))] = ([1, 0] : List Int) ++ twoL cols ++ twoL rows ++ ([1, 0, 10, 2, 229, 0, 2, 0, 111, 9, 12] : List Int) ++ twoL (rows * cols) := by simp [cat]
    have UZ := Lib.hid (show Up w wZ by have := UW.out; (repeat (first | with_reducible exact Up.refl _ | with_reducible refine Up.alloc ?_ _ | with_reducible refine Up.drew ?_ | with_reducible refine Up.drewN ?_ _ | with_reducible refine Up.setCell ?_ (by (try simp) <;> omega) _ | with_reducible assumption | with_reducible refine Up.trans ?_ (by assumption))))
    rw [hcat] at hsZ
    have HZ := Lib.hid hsZ
    clear hsZ
    go_ret
    refine ⟨AZ, cZ, ?_, HZ.out.low (Up.size (by have := UW.out; (repeat (first | with_reducible exact Up.refl _ | with_reducible refine Up.alloc ?_ _ | with_reducible refine Up.drew ?_ | with_reducible refine Up.drewN ?_ _ | with_reducible refine Up.setCell ?_ (by (try simp) <;> omega) _ | with_reducible assumption | with_reducible refine Up.trans ?_ (by assumption))))), UZ.out⟩
    try rw [← hcat]
    rfl
set_option maxRecDepth 100000 in
set_option maxHeartbeats 6400000 in
theorem says_133 (rows cols k : Int) (pv : Value) (w : World) (hd : isDim rows cols) (hp : PgV w pv k) (hk : 0 ≤ k ∧ k ≤ 65535) :
    Calls Try.prog 38 #[.int .u8 133, .agg #[.int .i64 rows, .int .i64 cols], pv] w (SPost w (([130, 0, 9, 12, 0, 0, 0, 0, 7, 0, 0, 0] : List Int) ++ twoL k ++ ([2, 241, 3, 1, 54] : List Int))) := by
  obtain ⟨⟨r0, r1⟩, ⟨q0, q1⟩, hrc⟩ := hd.bd
  have HD := Lib.hid hd
  have HP := Lib.hid hp
  have HRC := Lib.hid hrc
  have HK := Lib.hid hk
  clear hd hp hrc hk
  have b0 : (w.alloc (.cells #[.int .i64 rows, .int .i64 cols] 101)).cell? ⟨w.heap.size, 0, none⟩ = some (.int .i64 rows) := by simp
  have b1 : (w.alloc (.cells #[.int .i64 rows, .int .i64 cols] 101)).cell? ⟨w.heap.size, 1, none⟩ = some (.int .i64 cols) := by simp
  have B0 := Lib.hid b0
  have B1 := Lib.hid b1
  clear b0 b1
  go_enter Try.func38, Try.ntmps38
  go_upto_region 1 with (fail)
  go_cut [7, 8] from 9 to 14 (fun v7 v8 wx => Two2 w rows cols v7 v8 wx)
  case first =>
    go_region_held3 (fun w' => w'.cell? ⟨w.heap.size, 0, none⟩ = some (.int .i64 rows) ∧ w'.cell? ⟨w.heap.size, 1, none⟩ = some (.int .i64 cols)) (first | done | exact ⟨B0.out, B1.out⟩ | exact ⟨t0R, t1R⟩ | exact ⟨t0C, t1C⟩ | exact B0.out | exact B1.out | exact t0R | exact t1R | exact t0C | exact t1C | fail) (first | (go_at_call_of 42 (Value.int IntKind.i64 rows); refine (two_is rows _ ⟨r0, r1⟩).mono ?_; rintro e wR ⟨AR, cR, rfl, hsR, huR⟩; have t0R : wR.cell? ⟨w.heap.size, 0, none⟩ = some (.int .i64 rows) := (by first | exact ((huR.at_ w.heap.size (by simp)).1 0).trans B0.out | exact ((huR.at_ w.heap.size (cell_lt t0C)).1 0).trans t0C | fail); have t1R : wR.cell? ⟨w.heap.size, 1, none⟩ = some (.int .i64 cols) := (by first | exact ((huR.at_ w.heap.size (by simp)).1 1).trans B1.out | exact ((huR.at_ w.heap.size (cell_lt t1C)).1 1).trans t1C | fail)) | (go_at_call_of 42 (Value.int IntKind.i64 cols); refine (two_is cols _ ⟨q0, q1⟩).mono ?_; rintro e wC ⟨AC, cC, rfl, hsC, huC⟩; have t0C : wC.cell? ⟨w.heap.size, 0, none⟩ = some (.int .i64 rows) := (by first | exact ((huC.at_ w.heap.size (by simp)).1 0).trans B0.out | exact ((huC.at_ w.heap.size (cell_lt t0R)).1 0).trans t0R | fail); have t1C : wC.cell? ⟨w.heap.size, 1, none⟩ = some (.int .i64 cols) := (by first | exact ((huC.at_ w.heap.size (by simp)).1 1).trans B1.out | exact ((huC.at_ w.heap.size (cell_lt t1R)).1 1).trans t1R | fail)))
    all_goals
      go_wp2_with fail
      go_meet
      case rel =>
        first
          | (have hU : Up (w.alloc (.cells #[.int .i64 rows, .int .i64 cols] 101)) wC := ((Up.refl _).drew.trans huR).trans huC
             have hz := hU.size
             exact ⟨AR, cR, AC, cC, rfl, rfl, (hsR.up huC).low (Nat.zero_le _), hsC.low (Nat.zero_le _), ((Up.refl w).alloc _).trans hU, by simp at hz; omega, ((hU.at_ w.heap.size (by simp)).1 0).trans B0.out, ((hU.at_ w.heap.size (by simp)).1 1).trans B1.out⟩)
          | (have hU : Up (w.alloc (.cells #[.int .i64 rows, .int .i64 cols] 101)) wR := ((Up.refl _).drew.trans huC).trans huR
             have hz := hU.size
             exact ⟨AR, cR, AC, cC, rfl, rfl, hsR.low (Nat.zero_le _), (hsC.up huR).low (Nat.zero_le _), ((Up.refl w).alloc _).trans hU, by simp at hz; omega, ((hU.at_ w.heap.size (by simp)).1 0).trans B0.out, ((hU.at_ w.heap.size (by simp)).1 1).trans B1.out⟩)
  case rest =>
    obtain ⟨A7, c7, A8, c8, rfl, rfl, s7, s8, uw, zw, d0, d1⟩ := hcut
    have S7 := Lib.hid s7
    have S8 := Lib.hid s8
    have UW := Lib.hid uw
    have zz := uw.size
    clear s7 s8 uw
    go_wp2_with (first | (go_at_call 45; refine (pgnum_is pv k _ (HP.out.up (by have := UW.out; (repeat (first | with_reducible exact Up.refl _ | with_reducible refine Up.alloc ?_ _ | with_reducible refine Up.drew ?_ | with_reducible refine Up.drewN ?_ _ | with_reducible refine Up.setCell ?_ (by (try simp) <;> omega) _ | with_reducible assumption | with_reducible refine Up.trans ?_ (by assumption)))))).mono ?_; rintro e wA ⟨rfl, huA⟩) | (go_at_call 42; refine (two_is k _ HK.out).mono ?_; rintro e wB ⟨AB, cB, rfl, hsB, huB⟩) | (go_at_call 43; refine (concat_is (xs := [(some ⟨wc.heap.size, 0, none⟩, 12, [130, 0, 9, 12, 0, 0, 0, 0, 7, 0, 0, 0]), (AB, cB, twoL k), (some ⟨wB.heap.size, 0, none⟩, 5, [2, 241, 3, 1, 54])]) (fl_lit (wB.alloc (.cells #[.int .u8 2, .int .u8 241, .int .u8 3, .int .u8 1, .int .u8 54] 5)) _ (by
      intro x hx
      simp only [List.mem_cons, List.mem_nil_iff, or_false] at hx
      rcases hx with rfl | rfl | rfl
      · exact ((sl_lit wc [130, 0, 9, 12, 0, 0, 0, 0, 7, 0, 0, 0] (by unfold BL; decide) (by simp) 12 (wc.heap.size) (by first | rfl | simp) #[.int .u8 130, .int .u8 0, .int .u8 9, .int .u8 12, .int .u8 0, .int .u8 0, .int .u8 0, .int .u8 0, .int .u8 7, .int .u8 0, .int .u8 0, .int .u8 0] rfl rfl).low (Nat.zero_le _)).up (by (repeat (first | with_reducible exact Up.refl _ | with_reducible refine Up.alloc ?_ _ | with_reducible refine Up.drew ?_ | with_reducible refine Up.drewN ?_ _ | with_reducible refine Up.setCell ?_ (by (try simp) <;> omega) _ | with_reducible assumption | with_reducible refine Up.trans ?_ (by assumption))))
      · exact hsB.low (Nat.zero_le _) |>.up (by (repeat (first | with_reducible exact Up.refl _ | with_reducible refine Up.alloc ?_ _ | with_reducible refine Up.drew ?_ | with_reducible refine Up.drewN ?_ _ | with_reducible refine Up.setCell ?_ (by (try simp) <;> omega) _ | with_reducible assumption | with_reducible refine Up.trans ?_ (by assumption))))
      · exact ((sl_lit wB [2, 241, 3, 1, 54] (by unfold BL; decide) (by simp) 5 (wB.heap.size) (by first | rfl | simp) #[.int .u8 2, .int .u8 241, .int .u8 3, .int .u8 1, .int .u8 54] rfl rfl).low (Nat.zero_le _)).up (by (repeat (first | with_reducible exact Up.refl _ | with_reducible refine Up.alloc ?_ _ | with_reducible refine Up.drew ?_ | with_reducible refine Up.drewN ?_ _ | with_reducible refine Up.setCell ?_ (by (try simp) <;> omega) _ | with_reducible assumption | with_reducible refine Up.trans ?_ (by assumption))))) (by simp) _ _ (by (try simp)) _ rfl rfl) rfl (by simp [cat, twoL, colL]) (by simp [cat, twoL, colL])).mono ?_; rintro e wZ ⟨AZ, cZ, rfl, hsZ, -, huZ⟩))
    have hcat : cat [(some ⟨wc.heap.size, 0, none⟩, 12, [130, 0, 9, 12, 0, 0, 0, 0, 7, 0, 0, 0]), (AB, cB, twoL k), (some ⟨wB.heap.size, 0, none⟩, 5, [2, 241, 3, 1, 54])] = ([130, 0, 9, 12, 0, 0, 0, 0, 7, 0, 0, 0] : List Int) ++ twoL k ++ ([2, 241, 3, 1, 54] : List Int) := by simp [cat]
    have UZ := Lib.hid (show Up w wZ by have := UW.out; (repeat (first | with_reducible exact Up.refl _ | with_reducible refine Up.alloc ?_ _ | with_reducible refine Up.drew ?_ | with_reducible refine Up.drewN ?_ _ | with_reducible refine Up.setCell ?_ (by (try simp) <;> omega) _ | with_reducible assumption | with_reducible refine Up.trans ?_ (by assumption))))
    rw [hcat] at hsZ
    have HZ := Lib.hid hsZ
    clear hsZ
    go_ret
    refine ⟨AZ, cZ, ?_, HZ.out.low (Up.size (by have := UW.out; (repeat (first | with_reducible exact Up.refl _ | with_reducible refine Up.alloc ?_ _ | with_reducible refine Up.drew ?_ | with_reducible refine Up.drewN ?_ _ | with_reducible refine Up.setCell ?_ (by (try simp) <;> omega) _ | with_reducible assumption | with_reducible refine Up.trans ?_ (by assumption))))), UZ.out⟩
    try rw [← hcat]
    rfl
set_option maxRecDepth 100000 in
set_option maxHeartbeats 6400000 in
theorem says_134 (rows cols k : Int) (pv : Value) (w : World) (hd : isDim rows cols) (hp : PgV w pv k) (hk : 0 ≤ k ∧ k ≤ 65535) :
    Calls Try.prog 38 #[.int .u8 134, .agg #[.int .i64 rows, .int .i64 cols], pv] w (SPost w (([0, 8, 0, 244] : List Int) ++ colL)) := by
  obtain ⟨⟨r0, r1⟩, ⟨q0, q1⟩, hrc⟩ := hd.bd
  have HD := Lib.hid hd
  have HP := Lib.hid hp
  have HRC := Lib.hid hrc
  have HK := Lib.hid hk
  clear hd hp hrc hk
  have b0 : (w.alloc (.cells #[.int .i64 rows, .int .i64 cols] 101)).cell? ⟨w.heap.size, 0, none⟩ = some (.int .i64 rows) := by simp
  have b1 : (w.alloc (.cells #[.int .i64 rows, .int .i64 cols] 101)).cell? ⟨w.heap.size, 1, none⟩ = some (.int .i64 cols) := by simp
  have B0 := Lib.hid b0
  have B1 := Lib.hid b1
  clear b0 b1
  go_enter Try.func38, Try.ntmps38
  go_upto_region 1 with (fail)
  go_cut [7, 8] from 9 to 14 (fun v7 v8 wx => Two2 w rows cols v7 v8 wx)
  case first =>
    go_region_held3 (fun w' => w'.cell? ⟨w.heap.size, 0, none⟩ = some (.int .i64 rows) ∧ w'.cell? ⟨w.heap.size, 1, none⟩ = some (.int .i64 cols)) (first | done | exact ⟨B0.out, B1.out⟩ | exact ⟨t0R, t1R⟩ | exact ⟨t0C, t1C⟩ | exact B0.out | exact B1.out | exact t0R | exact t1R | exact t0C | exact t1C | fail) (first | (go_at_call_of 42 (Value.int IntKind.i64 rows); refine (two_is rows _ ⟨r0, r1⟩).mono ?_; rintro e wR ⟨AR, cR, rfl, hsR, huR⟩; have t0R : wR.cell? ⟨w.heap.size, 0, none⟩ = some (.int .i64 rows) := (by first | exact ((huR.at_ w.heap.size (by simp)).1 0).trans B0.out | exact ((huR.at_ w.heap.size (cell_lt t0C)).1 0).trans t0C | fail); have t1R : wR.cell? ⟨w.heap.size, 1, none⟩ = some (.int .i64 cols) := (by first | exact ((huR.at_ w.heap.size (by simp)).1 1).trans B1.out | exact ((huR.at_ w.heap.size (cell_lt t1C)).1 1).trans t1C | fail)) | (go_at_call_of 42 (Value.int IntKind.i64 cols); refine (two_is cols _ ⟨q0, q1⟩).mono ?_; rintro e wC ⟨AC, cC, rfl, hsC, huC⟩; have t0C : wC.cell? ⟨w.heap.size, 0, none⟩ = some (.int .i64 rows) := (by first | exact ((huC.at_ w.heap.size (by simp)).1 0).trans B0.out | exact ((huC.at_ w.heap.size (cell_lt t0R)).1 0).trans t0R | fail); have t1C : wC.cell? ⟨w.heap.size, 1, none⟩ = some (.int .i64 cols) := (by first | exact ((huC.at_ w.heap.size (by simp)).1 1).trans B1.out | exact ((huC.at_ w.heap.size (cell_lt t1R)).1 1).trans t1R | fail)))
    all_goals
      go_wp2_with fail
      go_meet
      case rel =>
        first
          | (have hU : Up (w.alloc (.cells #[.int .i64 rows, .int .i64 cols] 101)) wC := ((Up.refl _).drew.trans huR).trans huC
             have hz := hU.size
             exact ⟨AR, cR, AC, cC, rfl, rfl, (hsR.up huC).low (Nat.zero_le _), hsC.low (Nat.zero_le _), ((Up.refl w).alloc _).trans hU, by simp at hz; omega, ((hU.at_ w.heap.size (by simp)).1 0).trans B0.out, ((hU.at_ w.heap.size (by simp)).1 1).trans B1.out⟩)
          | (have hU : Up (w.alloc (.cells #[.int .i64 rows, .int .i64 cols] 101)) wR := ((Up.refl _).drew.trans huC).trans huR
             have hz := hU.size
             exact ⟨AR, cR, AC, cC, rfl, rfl, hsR.low (Nat.zero_le _), (hsC.up huR).low (Nat.zero_le _), ((Up.refl w).alloc _).trans hU, by simp at hz; omega, ((hU.at_ w.heap.size (by simp)).1 0).trans B0.out, ((hU.at_ w.heap.size (by simp)).1 1).trans B1.out⟩)
  case rest =>
    obtain ⟨A7, c7, A8, c8, rfl, rfl, s7, s8, uw, zw, d0, d1⟩ := hcut
    have S7 := Lib.hid s7
    have S8 := Lib.hid s8
    have UW := Lib.hid uw
    have zz := uw.size
    clear s7 s8 uw
    go_wp2_with (first | (go_at_call 46; refine (colors_is _).mono ?_; rintro e wB ⟨AB, cB, rfl, hsB, huB⟩) | (go_at_call 43; refine (concat_is (xs := [(some ⟨wc.heap.size, 0, none⟩, 4, [0, 8, 0, 244]), (AB, cB, colL)]) (fl_lit wB _ (by
      intro x hx
      simp only [List.mem_cons, List.mem_nil_iff, or_false] at hx
      rcases hx with rfl | rfl
      · exact ((sl_lit wc [0, 8, 0, 244] (by unfold BL; decide) (by simp) 4 (wc.heap.size) (by first | rfl | simp) #[.int .u8 0, .int .u8 8, .int .u8 0, .int .u8 244] rfl rfl).low (Nat.zero_le _)).up (by (repeat (first | with_reducible exact Up.refl _ | with_reducible refine Up.alloc ?_ _ | with_reducible refine Up.drew ?_ | with_reducible refine Up.drewN ?_ _ | with_reducible refine Up.setCell ?_ (by (try simp) <;> omega) _ | with_reducible assumption | with_reducible refine Up.trans ?_ (by assumption))))
      · exact hsB.low (Nat.zero_le _) |>.up (by (repeat (first | with_reducible exact Up.refl _ | with_reducible refine Up.alloc ?_ _ | with_reducible refine Up.drew ?_ | with_reducible refine Up.drewN ?_ _ | with_reducible refine Up.setCell ?_ (by (try simp) <;> omega) _ | with_reducible assumption | with_reducible refine Up.trans ?_ (by assumption))))) (by simp) _ _ (by (try simp)) _ rfl rfl) rfl (by simp [cat, twoL, colL]) (by simp [cat, twoL, colL])).mono ?_; rintro e wZ ⟨AZ, cZ, rfl, hsZ, -, huZ⟩))
    have hcat : cat [(some ⟨wc.heap.size, 0, none⟩, 4, [0, 8, 0, 244]), (AB, cB, colL)] = ([0, 8, 0, 244] : List Int) ++ colL := by simp [cat]
    have UZ := Lib.hid (show Up w wZ by have := UW.out; (repeat (first | with_reducible exact Up.refl _ | with_reducible refine Up.alloc ?_ _ | with_reducible refine Up.drew ?_ | with_reducible refine Up.drewN ?_ _ | with_reducible refine Up.setCell ?_ (by (try simp) <;> omega) _ | with_reducible assumption | with_reducible refine Up.trans ?_ (by assumption))))
    rw [hcat] at hsZ
    have HZ := Lib.hid hsZ
    clear hsZ
    go_ret
    refine ⟨AZ, cZ, ?_, HZ.out.low (Up.size (by have := UW.out; (repeat (first | with_reducible exact Up.refl _ | with_reducible refine Up.alloc ?_ _ | with_reducible refine Up.drew ?_ | with_reducible refine Up.drewN ?_ _ | with_reducible refine Up.setCell ?_ (by (try simp) <;> omega) _ | with_reducible assumption | with_reducible refine Up.trans ?_ (by assumption))))), UZ.out⟩
    try rw [← hcat]
    rfl
set_option maxRecDepth 100000 in
set_option maxHeartbeats 6400000 in
theorem says_135 (rows cols k : Int) (pv : Value) (w : World) (hd : isDim rows cols) (hp : PgV w pv k) (hk : 0 ≤ k ∧ k ≤ 65535) :
    Calls Try.prog 38 #[.int .u8 135, .agg #[.int .i64 rows, .int .i64 cols], pv] w (SPost w (([5, 0, 240, 241, 241, 242, 242, 244, 244, 248, 248] : List Int))) := by
  obtain ⟨⟨r0, r1⟩, ⟨q0, q1⟩, hrc⟩ := hd.bd
  have HD := Lib.hid hd
  have HP := Lib.hid hp
  have HRC := Lib.hid hrc
  have HK := Lib.hid hk
  clear hd hp hrc hk
  have b0 : (w.alloc (.cells #[.int .i64 rows, .int .i64 cols] 101)).cell? ⟨w.heap.size, 0, none⟩ = some (.int .i64 rows) := by simp
  have b1 : (w.alloc (.cells #[.int .i64 rows, .int .i64 cols] 101)).cell? ⟨w.heap.size, 1, none⟩ = some (.int .i64 cols) := by simp
  have B0 := Lib.hid b0
  have B1 := Lib.hid b1
  clear b0 b1
  go_enter Try.func38, Try.ntmps38
  go_upto_region 1 with (fail)
  go_cut [7, 8] from 9 to 14 (fun v7 v8 wx => Two2 w rows cols v7 v8 wx)
  case first =>
    go_region_held3 (fun w' => w'.cell? ⟨w.heap.size, 0, none⟩ = some (.int .i64 rows) ∧ w'.cell? ⟨w.heap.size, 1, none⟩ = some (.int .i64 cols)) (first | done | exact ⟨B0.out, B1.out⟩ | exact ⟨t0R, t1R⟩ | exact ⟨t0C, t1C⟩ | exact B0.out | exact B1.out | exact t0R | exact t1R | exact t0C | exact t1C | fail) (first | (go_at_call_of 42 (Value.int IntKind.i64 rows); refine (two_is rows _ ⟨r0, r1⟩).mono ?_; rintro e wR ⟨AR, cR, rfl, hsR, huR⟩; have t0R : wR.cell? ⟨w.heap.size, 0, none⟩ = some (.int .i64 rows) := (by first | exact ((huR.at_ w.heap.size (by simp)).1 0).trans B0.out | exact ((huR.at_ w.heap.size (cell_lt t0C)).1 0).trans t0C | fail); have t1R : wR.cell? ⟨w.heap.size, 1, none⟩ = some (.int .i64 cols) := (by first | exact ((huR.at_ w.heap.size (by simp)).1 1).trans B1.out | exact ((huR.at_ w.heap.size (cell_lt t1C)).1 1).trans t1C | fail)) | (go_at_call_of 42 (Value.int IntKind.i64 cols); refine (two_is cols _ ⟨q0, q1⟩).mono ?_; rintro e wC ⟨AC, cC, rfl, hsC, huC⟩; have t0C : wC.cell? ⟨w.heap.size, 0, none⟩ = some (.int .i64 rows) := (by first | exact ((huC.at_ w.heap.size (by simp)).1 0).trans B0.out | exact ((huC.at_ w.heap.size (cell_lt t0R)).1 0).trans t0R | fail); have t1C : wC.cell? ⟨w.heap.size, 1, none⟩ = some (.int .i64 cols) := (by first | exact ((huC.at_ w.heap.size (by simp)).1 1).trans B1.out | exact ((huC.at_ w.heap.size (cell_lt t1R)).1 1).trans t1R | fail)))
    all_goals
      go_wp2_with fail
      go_meet
      case rel =>
        first
          | (have hU : Up (w.alloc (.cells #[.int .i64 rows, .int .i64 cols] 101)) wC := ((Up.refl _).drew.trans huR).trans huC
             have hz := hU.size
             exact ⟨AR, cR, AC, cC, rfl, rfl, (hsR.up huC).low (Nat.zero_le _), hsC.low (Nat.zero_le _), ((Up.refl w).alloc _).trans hU, by simp at hz; omega, ((hU.at_ w.heap.size (by simp)).1 0).trans B0.out, ((hU.at_ w.heap.size (by simp)).1 1).trans B1.out⟩)
          | (have hU : Up (w.alloc (.cells #[.int .i64 rows, .int .i64 cols] 101)) wR := ((Up.refl _).drew.trans huC).trans huR
             have hz := hU.size
             exact ⟨AR, cR, AC, cC, rfl, rfl, hsR.low (Nat.zero_le _), (hsC.up huR).low (Nat.zero_le _), ((Up.refl w).alloc _).trans hU, by simp at hz; omega, ((hU.at_ w.heap.size (by simp)).1 0).trans B0.out, ((hU.at_ w.heap.size (by simp)).1 1).trans B1.out⟩)
  case rest =>
    obtain ⟨A7, c7, A8, c8, rfl, rfl, s7, s8, uw, zw, d0, d1⟩ := hcut
    have S7 := Lib.hid s7
    have S8 := Lib.hid s8
    have UW := Lib.hid uw
    have zz := uw.size
    clear s7 s8 uw
    go_wp2_with fail
    go_ret
    exact SPost.of rfl rfl ((sl_lit wc [5, 0, 240, 241, 241, 242, 242, 244, 244, 248, 248] (by unfold BL; decide) (by simp) 11 _ rfl #[.int .u8 5, .int .u8 0, .int .u8 240, .int .u8 241, .int .u8 241, .int .u8 242, .int .u8 242, .int .u8 244, .int .u8 244, .int .u8 248, .int .u8 248] rfl rfl).low zz) (by have := UW.out; (repeat (first | with_reducible exact Up.refl _ | with_reducible refine Up.alloc ?_ _ | with_reducible refine Up.drew ?_ | with_reducible refine Up.drewN ?_ _ | with_reducible refine Up.setCell ?_ (by (try simp) <;> omega) _ | with_reducible assumption | with_reducible refine Up.trans ?_ (by assumption))))
set_option maxRecDepth 100000 in
set_option maxHeartbeats 6400000 in
theorem says_136 (rows cols k : Int) (pv : Value) (w : World) (hd : isDim rows cols) (hp : PgV w pv k) (hk : 0 ≤ k ∧ k ≤ 65535) :
    Calls Try.prog 38 #[.int .u8 136, .agg #[.int .i64 rows, .int .i64 cols], pv] w (SPost w (([0, 1, 2] : List Int))) := by
  obtain ⟨⟨r0, r1⟩, ⟨q0, q1⟩, hrc⟩ := hd.bd
  have HD := Lib.hid hd
  have HP := Lib.hid hp
  have HRC := Lib.hid hrc
  have HK := Lib.hid hk
  clear hd hp hrc hk
  have b0 : (w.alloc (.cells #[.int .i64 rows, .int .i64 cols] 101)).cell? ⟨w.heap.size, 0, none⟩ = some (.int .i64 rows) := by simp
  have b1 : (w.alloc (.cells #[.int .i64 rows, .int .i64 cols] 101)).cell? ⟨w.heap.size, 1, none⟩ = some (.int .i64 cols) := by simp
  have B0 := Lib.hid b0
  have B1 := Lib.hid b1
  clear b0 b1
  go_enter Try.func38, Try.ntmps38
  go_upto_region 1 with (fail)
  go_cut [7, 8] from 9 to 14 (fun v7 v8 wx => Two2 w rows cols v7 v8 wx)
  case first =>
    go_region_held3 (fun w' => w'.cell? ⟨w.heap.size, 0, none⟩ = some (.int .i64 rows) ∧ w'.cell? ⟨w.heap.size, 1, none⟩ = some (.int .i64 cols)) (first | done | exact ⟨B0.out, B1.out⟩ | exact ⟨t0R, t1R⟩ | exact ⟨t0C, t1C⟩ | exact B0.out | exact B1.out | exact t0R | exact t1R | exact t0C | exact t1C | fail) (first | (go_at_call_of 42 (Value.int IntKind.i64 rows); refine (two_is rows _ ⟨r0, r1⟩).mono ?_; rintro e wR ⟨AR, cR, rfl, hsR, huR⟩; have t0R : wR.cell? ⟨w.heap.size, 0, none⟩ = some (.int .i64 rows) := (by first | exact ((huR.at_ w.heap.size (by simp)).1 0).trans B0.out | exact ((huR.at_ w.heap.size (cell_lt t0C)).1 0).trans t0C | fail); have t1R : wR.cell? ⟨w.heap.size, 1, none⟩ = some (.int .i64 cols) := (by first | exact ((huR.at_ w.heap.size (by simp)).1 1).trans B1.out | exact ((huR.at_ w.heap.size (cell_lt t1C)).1 1).trans t1C | fail)) | (go_at_call_of 42 (Value.int IntKind.i64 cols); refine (two_is cols _ ⟨q0, q1⟩).mono ?_; rintro e wC ⟨AC, cC, rfl, hsC, huC⟩; have t0C : wC.cell? ⟨w.heap.size, 0, none⟩ = some (.int .i64 rows) := (by first | exact ((huC.at_ w.heap.size (by simp)).1 0).trans B0.out | exact ((huC.at_ w.heap.size (cell_lt t0R)).1 0).trans t0R | fail); have t1C : wC.cell? ⟨w.heap.size, 1, none⟩ = some (.int .i64 cols) := (by first | exact ((huC.at_ w.heap.size (by simp)).1 1).trans B1.out | exact ((huC.at_ w.heap.size (cell_lt t1R)).1 1).trans t1R | fail)))
    all_goals
      go_wp2_with fail
      go_meet
      case rel =>
        first
          | (have hU : Up (w.alloc (.cells #[.int .i64 rows, .int .i64 cols] 101)) wC := ((Up.refl _).drew.trans huR).trans huC
             have hz := hU.size
             exact ⟨AR, cR, AC, cC, rfl, rfl, (hsR.up huC).low (Nat.zero_le _), hsC.low (Nat.zero_le _), ((Up.refl w).alloc _).trans hU, by simp at hz; omega, ((hU.at_ w.heap.size (by simp)).1 0).trans B0.out, ((hU.at_ w.heap.size (by simp)).1 1).trans B1.out⟩)
          | (have hU : Up (w.alloc (.cells #[.int .i64 rows, .int .i64 cols] 101)) wR := ((Up.refl _).drew.trans huC).trans huR
             have hz := hU.size
             exact ⟨AR, cR, AC, cC, rfl, rfl, hsR.low (Nat.zero_le _), (hsC.up huR).low (Nat.zero_le _), ((Up.refl w).alloc _).trans hU, by simp at hz; omega, ((hU.at_ w.heap.size (by simp)).1 0).trans B0.out, ((hU.at_ w.heap.size (by simp)).1 1).trans B1.out⟩)
  case rest =>
    obtain ⟨A7, c7, A8, c8, rfl, rfl, s7, s8, uw, zw, d0, d1⟩ := hcut
    have S7 := Lib.hid s7
    have S8 := Lib.hid s8
    have UW := Lib.hid uw
    have zz := uw.size
    clear s7 s8 uw
    go_wp2_with fail
    go_ret
    exact SPost.of rfl rfl ((sl_lit wc [0, 1, 2] (by unfold BL; decide) (by simp) 3 _ rfl #[.int .u8 0, .int .u8 1, .int .u8 2] rfl rfl).low zz) (by have := UW.out; (repeat (first | with_reducible exact Up.refl _ | with_reducible refine Up.alloc ?_ _ | with_reducible refine Up.drew ?_ | with_reducible refine Up.drewN ?_ _ | with_reducible refine Up.setCell ?_ (by (try simp) <;> omega) _ | with_reducible assumption | with_reducible refine Up.trans ?_ (by assumption))))
set_option maxRecDepth 100000 in
set_option maxHeartbeats 6400000 in
theorem says_166 (rows cols k : Int) (pv : Value) (w : World) (hd : isDim rows cols) (hp : PgV w pv k) (hk : 0 ≤ k ∧ k ≤ 65535) :
    Calls Try.prog 38 #[.int .u8 166, .agg #[.int .i64 rows, .int .i64 cols], pv] w (SPost w (([0, 0, 11, 1, 0, 0, 80, 0, 24] : List Int) ++ twoL cols ++ twoL rows)) := by
  obtain ⟨⟨r0, r1⟩, ⟨q0, q1⟩, hrc⟩ := hd.bd
  have HD := Lib.hid hd
  have HP := Lib.hid hp
  have HRC := Lib.hid hrc
  have HK := Lib.hid hk
  clear hd hp hrc hk
  have b0 : (w.alloc (.cells #[.int .i64 rows, .int .i64 cols] 101)).cell? ⟨w.heap.size, 0, none⟩ = some (.int .i64 rows) := by simp
  have b1 : (w.alloc (.cells #[.int .i64 rows, .int .i64 cols] 101)).cell? ⟨w.heap.size, 1, none⟩ = some (.int .i64 cols) := by simp
  have B0 := Lib.hid b0
  have B1 := Lib.hid b1
  clear b0 b1
  go_enter Try.func38, Try.ntmps38
  go_upto_region 1 with (fail)
  go_cut [7, 8] from 9 to 14 (fun v7 v8 wx => Two2 w rows cols v7 v8 wx)
  case first =>
    go_region_held3 (fun w' => w'.cell? ⟨w.heap.size, 0, none⟩ = some (.int .i64 rows) ∧ w'.cell? ⟨w.heap.size, 1, none⟩ = some (.int .i64 cols)) (first | done | exact ⟨B0.out, B1.out⟩ | exact ⟨t0R, t1R⟩ | exact ⟨t0C, t1C⟩ | exact B0.out | exact B1.out | exact t0R | exact t1R | exact t0C | exact t1C | fail) (first | (go_at_call_of 42 (Value.int IntKind.i64 rows); refine (two_is rows _ ⟨r0, r1⟩).mono ?_; rintro e wR ⟨AR, cR, rfl, hsR, huR⟩; have t0R : wR.cell? ⟨w.heap.size, 0, none⟩ = some (.int .i64 rows) := (by first | exact ((huR.at_ w.heap.size (by simp)).1 0).trans B0.out | exact ((huR.at_ w.heap.size (cell_lt t0C)).1 0).trans t0C | fail); have t1R : wR.cell? ⟨w.heap.size, 1, none⟩ = some (.int .i64 cols) := (by first | exact ((huR.at_ w.heap.size (by simp)).1 1).trans B1.out | exact ((huR.at_ w.heap.size (cell_lt t1C)).1 1).trans t1C | fail)) | (go_at_call_of 42 (Value.int IntKind.i64 cols); refine (two_is cols _ ⟨q0, q1⟩).mono ?_; rintro e wC ⟨AC, cC, rfl, hsC, huC⟩; have t0C : wC.cell? ⟨w.heap.size, 0, none⟩ = some (.int .i64 rows) := (by first | exact ((huC.at_ w.heap.size (by simp)).1 0).trans B0.out | exact ((huC.at_ w.heap.size (cell_lt t0R)).1 0).trans t0R | fail); have t1C : wC.cell? ⟨w.heap.size, 1, none⟩ = some (.int .i64 cols) := (by first | exact ((huC.at_ w.heap.size (by simp)).1 1).trans B1.out | exact ((huC.at_ w.heap.size (cell_lt t1R)).1 1).trans t1R | fail)))
    all_goals
      go_wp2_with fail
      go_meet
      case rel =>
        first
          | (have hU : Up (w.alloc (.cells #[.int .i64 rows, .int .i64 cols] 101)) wC := ((Up.refl _).drew.trans huR).trans huC
             have hz := hU.size
             exact ⟨AR, cR, AC, cC, rfl, rfl, (hsR.up huC).low (Nat.zero_le _), hsC.low (Nat.zero_le _), ((Up.refl w).alloc _).trans hU, by simp at hz; omega, ((hU.at_ w.heap.size (by simp)).1 0).trans B0.out, ((hU.at_ w.heap.size (by simp)).1 1).trans B1.out⟩)
          | (have hU : Up (w.alloc (.cells #[.int .i64 rows, .int .i64 cols] 101)) wR := ((Up.refl _).drew.trans huC).trans huR
             have hz := hU.size
             exact ⟨AR, cR, AC, cC, rfl, rfl, hsR.low (Nat.zero_le _), (hsC.up huR).low (Nat.zero_le _), ((Up.refl w).alloc _).trans hU, by simp at hz; omega, ((hU.at_ w.heap.size (by simp)).1 0).trans B0.out, ((hU.at_ w.heap.size (by simp)).1 1).trans B1.out⟩)
  case rest =>
    obtain ⟨A7, c7, A8, c8, rfl, rfl, s7, s8, uw, zw, d0, d1⟩ := hcut
    have S7 := Lib.hid s7
    have S8 := Lib.hid s8
    have UW := Lib.hid uw
    have zz := uw.size
    clear s7 s8 uw
    go_wp2_with (first | (go_at_call 43; refine (concat_is (xs := [(some ⟨wc.heap.size, 0, none⟩, 9, [0, 0, 11, 1, 0, 0, 80, 0, 24]), (A8, c8, twoL cols), (A7, c7, twoL rows)]) (fl_lit (wc.alloc (.cells #[.int .u8 0, .int .u8 0, .int .u8 11, .int .u8 1, .int .u8 0, .int .u8 0, .int .u8 80, .int .u8 0, .int .u8 24] 5)) _ (by
      intro x hx
      simp only [List.mem_cons, List.mem_nil_iff, or_false] at hx
      rcases hx with rfl | rfl | rfl
      · exact ((sl_lit wc [0, 0, 11, 1, 0, 0, 80, 0, 24] (by unfold BL; decide) (by simp) 9 (wc.heap.size) (by first | rfl | simp) #[.int .u8 0, .int .u8 0, .int .u8 11, .int .u8 1, .int .u8 0, .int .u8 0, .int .u8 80, .int .u8 0, .int .u8 24] rfl rfl).low (Nat.zero_le _)).up (by (repeat (first | with_reducible exact Up.refl _ | with_reducible refine Up.alloc ?_ _ | with_reducible refine Up.drew ?_ | with_reducible refine Up.drewN ?_ _ | with_reducible refine Up.setCell ?_ (by (try simp) <;> omega) _ | with_reducible assumption | with_reducible refine Up.trans ?_ (by assumption))))
      · exact S8.out.up (by have := UW.out; (repeat (first | with_reducible exact Up.refl _ | with_reducible refine Up.alloc ?_ _ | with_reducible refine Up.drew ?_ | with_reducible refine Up.drewN ?_ _ | with_reducible refine Up.setCell ?_ (by (try simp) <;> omega) _ | with_reducible assumption | with_reducible refine Up.trans ?_ (by assumption))))
      · exact S7.out.up (by have := UW.out; (repeat (first | with_reducible exact Up.refl _ | with_reducible refine Up.alloc ?_ _ | with_reducible refine Up.drew ?_ | with_reducible refine Up.drewN ?_ _ | with_reducible refine Up.setCell ?_ (by (try simp) <;> omega) _ | with_reducible assumption | with_reducible refine Up.trans ?_ (by assumption))))) (by simp) _ _ (by (try simp)) _ rfl rfl) rfl (by simp [cat, twoL, colL]) (by simp [cat, twoL, colL])).mono ?_; rintro e wZ ⟨AZ, cZ, rfl, hsZ, -, huZ⟩))
    have hcat : cat [(some ⟨wc.heap.size, 0, none⟩, 9, [0, 0, 11, 1, 0, 0, 80, 0, 24]), (A8, c8, twoL cols), (A7, c7, twoL rows)] = ([0, 0, 11, 1, 0, 0, 80, 0, 24] : List Int) ++ twoL cols ++ twoL rows := by simp [cat]
    have UZ := Lib.hid (show Up w wZ by have := UW.out; (repeat (first | with_reducible exact Up.refl _ | with_reducible refine Up.alloc ?_ _ | with_reducible refine Up.drew ?_ | with_reducible refine Up.drewN ?_ _ | with_reducible refine Up.setCell ?_ (by (try simp) <;> omega) _ | with_reducible assumption | with_reducible refine Up.trans ?_ (by assumption))))
    rw [hcat] at hsZ
    have HZ := Lib.hid hsZ
    clear hsZ
    go_ret
    refine ⟨AZ, cZ, ?_, HZ.out.low (Up.size (by have := UW.out; (repeat (first | with_reducible exact Up.refl _ | with_reducible refine Up.alloc ?_ _ | with_reducible refine Up.drew ?_ | with_reducible refine Up.drewN ?_ _ | with_reducible refine Up.setCell ?_ (by (try simp) <;> omega) _ | with_reducible assumption | with_reducible refine Up.trans ?_ (by assumption))))), UZ.out⟩
    try rw [← hcat]
    rfl
end Go.Proofs.Ytfknakcjhlonoaa
