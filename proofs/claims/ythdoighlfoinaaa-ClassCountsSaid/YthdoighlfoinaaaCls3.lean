/-
  Classes of codes: the reference's Shown; a page or none is picked; the walks of ClassAlone and ClassUses. No condition.
-/
import Derived.Test.YthdoighlfoinaaaCls2
namespace Go.Proofs.Ythdoighlfoinaaa
open Go.RowKit Go.Maps
set_option linter.unusedVariables false
set_option linter.unusedSimpArgs false

theorem data_parts (c : Nat) (hc : c < 256) : dataN c = (!(decide ((c : Int) < 64)) && !((c : Int) == 255)) := by
  unfold dataN
  by_cases h1 : (c : Int) < 64
  · have : ¬ (64 ≤ (c : Int)) := by omega
    simp [h1, this]
  · by_cases h2 : (c : Int) = 255
    · simp [h2]
    · have h3 : 64 ≤ (c : Int) := by omega
      have h4 : (c : Int) < 255 := by omega
      simp [h1, h2, h3, h4]
set_option maxRecDepth 100000 in
set_option maxHeartbeats 3200000 in
theorem rshown_is (k : Int) (hk : isPage k = true) (c : Nat) (hc : c < 256) (w : World) :
    Calls Try.prog 36 #[.int .i64 k, .int .u8 (c : Int)] w fun e w' => e = .returned (.int .i32 (shownN c (signN k c))) ∧ w = w' := by
  have c1 := rsign_is k hk c hc w
  have hd := data_parts c hc
  unfold shownN hidN
  generalize signN k c = s at *
  generalize dataN (c : Int) = d at *
  cases e0 : ((c : Int) == 28)
  · cases e1 : ((c : Int) == 30)
    · cases e2 : ((c : Int) == 63)
      · cases a1 : decide ((c : Int) < 64)
        · cases a2 : ((c : Int) == 255)
          · rw [a1, a2] at hd
            replace hd : d = true := hd
            subst hd
            cases e3 : decide (s < 32) <;> cases e4 : decide (127 ≤ s) <;> cases e5 : decide (s ≤ 159) <;> cases e6 : (s == 173)
            all_goals
              have h3 := e3
              have h4 := e4
              have h5 := e5
              have h6 := e6
              simp only [decide_eq_true_eq, decide_eq_false_iff_not, beq_iff_eq, beq_eq_false_iff_ne] at h3 h4 h5 h6
            all_goals first | (exfalso; omega) | skip
            all_goals
              clear h6
              try simp only [Bool.false_eq_true, Bool.true_eq_false, if_true, if_false, reduceIte, reduceCtorEq, Bool.or_true, Bool.true_or, Bool.or_false, Bool.false_or, Bool.and_true, Bool.and_false, Bool.true_and, Bool.false_and]
              go_enter Try.func36, Try.ntmps36
              go_wp2_with (first
                | (go_at_call 18; with_reducible refine c1.mono ?_; rintro e w1 ⟨rfl, rfl⟩))
              go_ret
              exact ⟨rfl, rfl⟩
          · rw [a1, a2] at hd
            replace hd : d = false := hd
            subst hd
            try simp only [Bool.false_eq_true, Bool.true_eq_false, if_true, if_false, reduceIte, reduceCtorEq]
            go_enter Try.func36, Try.ntmps36
            go_wp2_with (first
                | (go_at_call 18; with_reducible refine c1.mono ?_; rintro e w1 ⟨rfl, rfl⟩))
            go_ret
            exact ⟨rfl, rfl⟩
        · rw [a1] at hd
          replace hd : d = false := hd
          subst hd
          try simp only [Bool.false_eq_true, Bool.true_eq_false, if_true, if_false, reduceIte, reduceCtorEq]
          go_enter Try.func36, Try.ntmps36
          go_wp2_with (first
                | (go_at_call 18; with_reducible refine c1.mono ?_; rintro e w1 ⟨rfl, rfl⟩))
          go_ret
          exact ⟨rfl, rfl⟩
      · clear hd
        try simp only [Bool.false_eq_true, Bool.true_eq_false, if_true, if_false, reduceIte, reduceCtorEq]
        go_enter Try.func36, Try.ntmps36
        go_wp2_with (first
                | (go_at_call 18; with_reducible refine c1.mono ?_; rintro e w1 ⟨rfl, rfl⟩))
        go_ret
        exact ⟨rfl, rfl⟩
    · clear hd
      try simp only [Bool.false_eq_true, Bool.true_eq_false, if_true, if_false, reduceIte, reduceCtorEq]
      go_enter Try.func36, Try.ntmps36
      go_wp2_with (first
                | (go_at_call 18; with_reducible refine c1.mono ?_; rintro e w1 ⟨rfl, rfl⟩))
      go_ret
      exact ⟨rfl, rfl⟩
  · clear hd
    try simp only [Bool.false_eq_true, Bool.true_eq_false, if_true, if_false, reduceIte, reduceCtorEq]
    go_enter Try.func36, Try.ntmps36
    go_wp2_with (first
                | (go_at_call 18; with_reducible refine c1.mono ?_; rintro e w1 ⟨rfl, rfl⟩))
    go_ret
    exact ⟨rfl, rfl⟩
def sigN (s : Int) : Int := if (decide (48 ≤ s) && decide (s ≤ 57)) = true then 5 else if ((decide (97 ≤ s) && decide (s ≤ 122)) || (decide (65 ≤ s) && decide (s ≤ 90)) || (decide (192 ≤ s) && decide (s ≤ 255) && s != 215 && s != 247)) = true then 6 else 7
set_option maxRecDepth 100000 in
set_option maxHeartbeats 3200000 in
theorem signed_is (s : Int) (w : World) : Calls Try.prog 63 #[.int .i32 s] w fun e w' => e = .returned (.int .i64 (sigN s)) ∧ w = w' := by
  unfold sigN
  cases e1 : decide (48 ≤ s) <;> cases e2 : decide (s ≤ 57) <;> first | (exfalso; simp only [decide_eq_true_eq, decide_eq_false_iff_not] at *; omega) | skip
  all_goals cases e3 : decide (97 ≤ s) <;> cases e4 : decide (s ≤ 122) <;> first | (exfalso; simp only [decide_eq_true_eq, decide_eq_false_iff_not] at *; omega) | skip
  all_goals cases e5 : decide (65 ≤ s) <;> cases e6 : decide (s ≤ 90) <;> first | (exfalso; simp only [decide_eq_true_eq, decide_eq_false_iff_not] at *; omega) | skip
  all_goals cases e7 : decide (192 ≤ s) <;> cases e8 : decide (s ≤ 255) <;> first | (exfalso; simp only [decide_eq_true_eq, decide_eq_false_iff_not] at *; omega) | skip
  all_goals cases e9 : (s != 215) <;> cases e10 : (s != 247) <;> first | (exfalso; simp only [decide_eq_true_eq, decide_eq_false_iff_not, bne_iff_ne, bne_eq_false_iff_eq] at *; omega) | skip
  all_goals
    have h1 := e1
    have h2 := e2
    have h3 := e3
    have h4 := e4
    have h5 := e5
    have h6 := e6
    have h7 := e7
    have h8 := e8
    simp only [decide_eq_true_eq, decide_eq_false_iff_not] at h1 h2 h3 h4 h5 h6 h7 h8
    try simp only [Bool.false_eq_true, Bool.true_eq_false, if_true, if_false, reduceIte, reduceCtorEq, Bool.or_true, Bool.true_or, Bool.or_false, Bool.false_or, Bool.and_true, Bool.and_false, Bool.true_and, Bool.false_and]
    go_enter Try.func63, Try.ntmps63
    go_wp2_with fail
    go_ret
    exact ⟨rfl, rfl⟩
end Go.Proofs.Ythdoighlfoinaaa
