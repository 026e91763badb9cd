/-
  Where the document's cursor goes: vitrineref15's tab, First, Do. No condition.
-/
import Derived.Test.YtjokcfenncogkaaCur1
import Derived.Test.YtjokcfenncogkaaRf13d
import Derived.Test.YtjokcfenncogkaaROpen
namespace Go.Proofs.Ytjokcfenncogkaa
open Go.RowKit
set_option linter.unusedVariables false
set_option linter.unusedSimpArgs false

set_option maxHeartbeats 800000 in
theorem rtab_f {q h : Nat} {X : Spc} {w : World} (n : Int) (hr : RAt w q h X) (ok : X.Ok) :
    Calls Try.prog 122 #[.pointer (some ⟨q, 0, none⟩), .int .i64 n, .bool false] w fun e w' => e = .returned (.int .i64 (tabN X n 1)) ∧ Up w w' := by
  have H2 := Lib.hid (rnext_f n hr ok)
  have hf := find_range ok n 1
  unfold tabN
  generalize X.find n 1 = v at *
  clear hr
  rcases hf with rfl | ⟨f0, f1⟩
  all_goals
    go_enter Try.func122, Try.ntmps122
    go_wp2_with fail
    refine H2.out.mono ?_
    rintro e w2 ⟨rfl, hu2⟩
    go_wp2_with fail
    go_ret
    exact ⟨ret_int (by first | rfl | omega | (simp; omega)), hu2⟩
set_option maxHeartbeats 800000 in
theorem rtab_b {q h : Nat} {X : Spc} {w : World} (n : Int) (hr : RAt w q h X) (ok : X.Ok) :
    Calls Try.prog 122 #[.pointer (some ⟨q, 0, none⟩), .int .i64 n, .bool true] w fun e w' => e = .returned (.int .i64 (tabN X n (-1))) ∧ Up w w' := by
  have H2 := Lib.hid (rnext_b n hr ok)
  have hf := find_range ok n (-1)
  unfold tabN
  generalize X.find n (-1) = v at *
  clear hr
  rcases hf with rfl | ⟨f0, f1⟩
  all_goals
    go_enter Try.func122, Try.ntmps122
    go_wp2_with fail
    refine H2.out.mono ?_
    rintro e w2 ⟨rfl, hu2⟩
    go_wp2_with fail
    go_ret
    exact ⟨ret_int (by first | rfl | omega | (simp; omega)), hu2⟩
set_option maxHeartbeats 800000 in
theorem rfirst_is {q h : Nat} {X : Spc} {w : World} (n : Int) (hr : RAt w q h X) (ok : X.Ok) :
    Calls Try.prog 44 #[.pointer (some ⟨q, 0, none⟩), .int .i64 n] w fun e w' => e = .returned (.int .i64 (X.first n)) ∧ Up w w' := by
  have HR := Lib.hid hr
  have H1 := Lib.hid (ropen_is n hr ok)
  have H2 := Lib.hid (fun W (h' : RAt W q h X) => rtab_f n h' ok)
  have H3 := Lib.hid (fun W (h' : RAt W q h X) => rwrap_is n h' ok)
  rw [← (ok.wrap n).1] at H3
  unfold Spc.first
  generalize tabN X n 1 = v at *
  generalize n % (X.r * X.c) = k at *
  generalize X.open_ n = o at *
  clear ok hr
  cases o
  · go_enter Try.func44, Try.ntmps44
    go_wp2_with fail
    refine H1.out.mono ?_
    rintro e w1 ⟨rfl, hu1⟩
    go_wp2_with fail
    refine (H2.out _ (HR.out.up hu1)).mono ?_
    rintro e w2 ⟨rfl, hu2⟩
    go_wp2_with fail
    go_ret
    exact ⟨by simp, hu1.trans hu2⟩
  · go_enter Try.func44, Try.ntmps44
    go_wp2_with fail
    refine H1.out.mono ?_
    rintro e w1 ⟨rfl, hu1⟩
    go_wp2_with fail
    refine (H3.out _ (HR.out.up hu1)).mono ?_
    rintro e w2 ⟨rfl, hu2⟩
    go_wp2_with fail
    go_ret
    exact ⟨by simp, hu1.trans hu2⟩
end Go.Proofs.Ytjokcfenncogkaa
