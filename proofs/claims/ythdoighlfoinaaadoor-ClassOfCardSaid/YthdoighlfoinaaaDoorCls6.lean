/-
  Classes of codes: the reference's Of. No condition.
-/
import Derived.Test.YthdoighlfoinaaaDoorCls5
namespace Go.Proofs.YthdoighlfoinaaaDoor
open Go.RowKit Go.Maps
set_option linter.unusedVariables false
set_option linter.unusedSimpArgs false

theorem fmt_hit0 (c : Int) : fmtN c = fmtL.any (fun x => x == c) := by
  unfold fmtN fmtL
  simp only [List.any_cons, List.any_nil, Bool.or_false]
  rw [Bool.eq_iff_iff]
  simp only [Bool.or_eq_true, beq_iff_eq]
  omega
theorem fmt_hit {c : Int} {j : Nat} (hj : j < 7) (h : (fmtC j == c) = true) : fmtN c = true := by
  rw [fmt_hit0, List.any_eq_true]
  exact ⟨fmtC j, by unfold fmtC; rw [List.getD, List.getElem?_eq_getElem (show j < fmtL.length from hj)]; exact List.getElem_mem _, h⟩
theorem fmt_no {c : Int} (h : ∀ d, d < 7 → (fmtC d == c) = false) : fmtN c = false := by
  rw [fmt_hit0, List.any_eq_false]
  intro x hx
  obtain ⟨d, hd⟩ := List.getElem?_of_mem hx
  have hdl : d < 7 := (List.getElem?_eq_some_iff.1 hd).1
  have := h d hdl
  unfold fmtC at this
  rw [List.getD, hd] at this
  simpa using this
theorem fmt_cells {j : Nat} (h : j < 7) : (#[Value.int .u8 12, .int .u8 13, .int .u8 21, .int .u8 25, .int .u8 28, .int .u8 30, .int .u8 63] : Array Value)[j]? = some (.int .u8 (fmtC j)) := by
  match j, h with
  | 0, _ | 1, _ | 2, _ | 3, _ | 4, _ | 5, _ | 6, _ => rfl
theorem fmt_bd : ∀ j : Nat, j < 7 → 0 < fmtC j ∧ fmtC j < 64 := by
  intro j h
  match j, h with
  | 0, _ | 1, _ | 2, _ | 3, _ | 4, _ | 5, _ | 6, _ => decide
theorem cls_fmt {c s : Int} (h0 : (c == 0) = false) (h : fmtN c = true) : clsN c s = 1 := by unfold clsN; rw [h0, h]; rfl
set_option maxRecDepth 100000 in
set_option maxHeartbeats 3200000 in
theorem rof_is (k : Int) (hk : isPage k = true) (c : Nat) (hc : c < 256) (w : World) :
    Calls Tryd.prog 8 #[.int .i64 k, .int .u8 (c : Int)] w fun e w' => e = .returned (.int .i64 (clsN c (signN k c))) ∧ Up w w' := by
  have c1 := rsign_is k hk c hc
  have HD : Hid (clsN c (signN k c) = if ((c : Int) == 0) = true then 0 else if fmtN c = true then 1 else if ((c : Int) == 64) = true then 4 else if ((c : Int) == 255) = true then 2 else if decide ((c : Int) < 64) = true then 3 else sigN (signN k c)) := Lib.hid rfl
  generalize hV : clsN c (signN k c) = V at *
  generalize signN k c = s at *
  clear hV
  go_enter Tryd.func8, Tryd.ntmps8
  go_wp2_with fail
  generalize hw1 : w.alloc (.cells #[Value.int .u8 12, .int .u8 13, .int .u8 21, .int .u8 25, .int .u8 28, .int .u8 30, .int .u8 63] _) = w1
  have HU : Hid (Up w w1) := Lib.hid (by rw [← hw1]; exact (Up.refl w).alloc _)
  have hcell : ∀ j, j < 7 → w1.cell? ⟨w.heap.size, j, none⟩ = some (.int .u8 (fmtC j)) := fun j hj => by
    rw [← hw1, World.cell?_alloc_new]; exact fmt_cells hj
  clear hw1
  go_loop [10] (fun q => ∃ j : Nat, j ≤ 7 ∧ q = .int .i64 (j : Int) ∧ ∀ d, d < j → (fmtC d == (c : Int)) = false) (fun q => 7 - (intOf q).toNat)
  case atStart => exact ⟨0, by omega, rfl, fun d hd => absurd hd (by omega)⟩
  case round =>
    obtain ⟨j, hj, rfl, hno⟩ := hrel
    by_cases hlt : j < 7
    · have hcj := hcell j hlt
      have hfb := fmt_bd j hlt
      cases hcv : (fmtC j == (c : Int))
      · have HH : Hid ((fmtC j == (c : Int)) = false) := Lib.hid hcv
        generalize hxx : fmtC j = x at *
        have HX := Lib.hid hxx
        clear hxx hcell
        go_wp2_with fail
        go_round
        case rel => exact ⟨j + 1, by omega, by go_num, fun d hd => by
          rcases Nat.lt_or_ge d j with h | h
          · exact hno d h
          · obtain rfl : d = j := by omega
            rw [HX.out]; exact HH.out⟩
        case measure => simp [intOf]; omega
      · have hf := fmt_hit hlt hcv
        have h0 : ((c : Int) == 0) = false := by
          have : fmtC j = (c : Int) := by simpa using hcv
          simp only [beq_eq_false_iff_ne]; omega
        have HV : Hid (V = 1) := Lib.hid (HD.out.trans (by rw [h0, hf]; rfl))
        clear hf h0 HD hcell
        generalize fmtC j = x at *
        go_wp2_with fail
        go_ret
        exact ⟨ret_int HV.out.symm, HU.out⟩
    · have HF : Hid (fmtN (c : Int) = false) := Lib.hid (fmt_no fun d hd => hno d (by omega))
      clear hno hcell
      cases e0 : ((c : Int) == 0)
      · cases e255 : ((c : Int) == 255)
        · cases elt : decide ((c : Int) < 64)
          · have hlt2 : ¬ ((c : Int) < 64) := by simpa using elt
            cases e64 : ((c : Int) == 64)
            · have HC : Hid (V = sigN s) := Lib.hid (HD.out.trans (by rw [e0, HF.out, e64, e255, elt]; rfl))
              clear HD
              cases e1 : decide (48 ≤ s) <;> cases e2 : decide (s ≤ 57) <;> first | (exfalso; simp only [decide_eq_true_eq, decide_eq_false_iff_not] at e1 e2; omega) | skip
              all_goals cases e3 : decide (97 ≤ s) <;> cases e4 : decide (s ≤ 122) <;> first | (exfalso; simp only [decide_eq_true_eq, decide_eq_false_iff_not] at e1 e2 e3 e4; omega) | skip
              all_goals cases e5 : decide (65 ≤ s) <;> cases e6 : decide (s ≤ 90) <;> first | (exfalso; simp only [decide_eq_true_eq, decide_eq_false_iff_not] at e1 e2 e3 e4 e5 e6; omega) | skip
              all_goals cases e7 : decide (192 ≤ s) <;> cases e8 : decide (s ≤ 255) <;> first | (exfalso; simp only [decide_eq_true_eq, decide_eq_false_iff_not] at e1 e2 e3 e4 e5 e6 e7 e8; omega) | skip
              all_goals cases e9 : (s != 215) <;> cases e10 : (s != 247) <;> first | (exfalso; simp only [decide_eq_true_eq, decide_eq_false_iff_not, bne_iff_ne, bne_eq_false_iff_eq] at e1 e2 e3 e4 e5 e6 e7 e8 e9 e10; omega) | skip
              all_goals
                have h1 := e1
                have h2 := e2
                have h3 := e3
                have h4 := e4
                have h5 := e5
                have h6 := e6
                have h7 := e7
                have h8 := e8
                simp only [decide_eq_true_eq, decide_eq_false_iff_not] at h1 h2 h3 h4 h5 h6 h7 h8
                go_wp2_with (go_at_call 23; with_reducible refine (c1 _).mono ?_; rintro e w4 ⟨rfl, rfl⟩)
                go_ret
                refine ⟨ret_int ?_, HU.out⟩
                rw [HC.out]
                unfold sigN
                rw [e1, e2, e3, e4, e5, e6, e7, e8, e9, e10]
                rfl
            · have HV : Hid (V = 4) := Lib.hid (HD.out.trans (by rw [e0, HF.out, e64]; rfl))
              clear HD
              go_wp2_with fail
              go_ret
              exact ⟨ret_int HV.out.symm, HU.out⟩
          · have e64 : ((c : Int) == 64) = false := by
              have := elt
              simp only [decide_eq_true_eq] at this
              simp only [beq_eq_false_iff_ne]; omega
            have HV : Hid (V = 3) := Lib.hid (HD.out.trans (by rw [e0, HF.out, e64, e255, elt]; rfl))
            clear HD
            go_wp2_with fail
            go_ret
            exact ⟨ret_int HV.out.symm, HU.out⟩
        · have e64 : ((c : Int) == 64) = false := by
            have : (c : Int) = 255 := by simpa using e255
            simp only [beq_eq_false_iff_ne]; omega
          have HV : Hid (V = 2) := Lib.hid (HD.out.trans (by rw [e0, HF.out, e64, e255]; rfl))
          clear HD e64
          go_wp2_with fail
          go_ret
          exact ⟨ret_int HV.out.symm, HU.out⟩
      · have HV : Hid (V = 0) := Lib.hid (HD.out.trans (by rw [e0]; rfl))
        clear HD
        go_wp2_with fail
        go_ret
        exact ⟨ret_int HV.out.symm, HU.out⟩
end Go.Proofs.YthdoighlfoinaaaDoor
