/-
  Classes of codes: Shown, Designator, and the reference's. No condition.
-/
import Derived.Test.YthdoighlfoinaaaCls1
namespace Go.Proofs.Ythdoighlfoinaaa
open Go.RowKit Go.Maps
set_option linter.unusedVariables false
set_option linter.unusedSimpArgs false

def shownN (c s : Int) : Int := if (c == 28) = true then 42 else if (c == 30) = true then 59 else if (c == 63) = true then 191 else if dataN c = false then 32 else if hidN s = true then 32 else s
def desN (c s : Int) : Int := if (c == 0) = true then 3 else if (s == 63) = true then 1 else if (s == 62) = true then 2 else if (s == 32) = true then 3 else if (s == 38) = true then 4 else 0
set_option maxRecDepth 100000 in
set_option maxHeartbeats 1600000 in
theorem shown_is (p : Option Nat) (k : Int) (hk : isPage k = true) (c : Nat) (hc : c < 256) (w : World) (h : PgAt w p k) :
    Calls Try.prog 28 #[pv p, .int .u8 (c : Int)] w fun e w' => e = .returned (.int .i32 (shownN c (signN k c))) ∧ PgAt w' p k ∧ NearP p w w' := by
  have hnot : ∀ (x : Bool) (w : World), (Op.unary .not (.bool x)).run Try.prog w = .ok (.bool (!x)) w := fun _ _ => rfl
  unfold shownN
  have c1 := csign_is p k hk c hc w h
  have c2 := data_is (c : Int)
  have c3 := hidden_is (signN k c)
  generalize hidN (signN k c) = hs at *
  generalize signN k c = s at *
  generalize dataN (c : Int) = d at *
  cases e0 : ((c : Int) == 28) <;> cases e1 : ((c : Int) == 30) <;> cases e2 : ((c : Int) == 63) <;> cases d <;> cases hs
  all_goals
    try simp only [Bool.false_eq_true, Bool.true_eq_false, if_true, if_false, reduceIte, reduceCtorEq]
    go_enter Try.func28, Try.ntmps28
    go_wp2_with (first
      | (go_at_call 54; with_reducible refine c1.mono ?_; rintro e w1 ⟨rfl, hp1, hn1⟩)
      | (go_at_call 55; with_reducible refine (c3 _).mono ?_; rintro e w3 ⟨rfl, rfl⟩)
      | (go_at_call 30; with_reducible refine (c2 _).mono ?_; rintro e w2 ⟨rfl, rfl⟩))
    go_ret
    first | exact ⟨rfl, hp1, hn1⟩ | exact ⟨rfl, h, NearP.refl p w⟩
set_option maxRecDepth 100000 in
set_option maxHeartbeats 1600000 in
theorem desig_is (p : Option Nat) (k : Int) (hk : isPage k = true) (c : Nat) (hc : c < 256) (w : World) (h : PgAt w p k) :
    Calls Try.prog 37 #[pv p, .int .u8 (c : Int)] w fun e w' => e = .returned (.int .i64 (desN c (signN k c))) ∧ PgAt w' p k ∧ NearP p w w' := by
  unfold desN
  have c1 := csign_is p k hk c hc w h
  generalize signN k c = s at *
  cases e0 : ((c : Int) == 0)
  · cases e1 : (s == 63) <;> cases e2 : (s == 62) <;> cases e3 : (s == 32) <;> cases e4 : (s == 38)
    all_goals
      try simp only [Bool.false_eq_true, Bool.true_eq_false, if_true, if_false, reduceIte, reduceCtorEq]
      go_enter Try.func37, Try.ntmps37
      go_wp2_with (first
        | (go_at_call 54; with_reducible refine c1.mono ?_; rintro e w1 ⟨rfl, hp1, hn1⟩))
      go_ret
      exact ⟨rfl, hp1, hn1⟩
  · try simp only [Bool.false_eq_true, Bool.true_eq_false, if_true, if_false, reduceIte, reduceCtorEq]
    go_enter Try.func37, Try.ntmps37
    go_wp2_with fail
    go_ret
    exact ⟨rfl, h, NearP.refl p w⟩
set_option maxRecDepth 100000 in
set_option maxHeartbeats 1600000 in
theorem rdata_is (c : Nat) (hc : c < 256) (w : World) : Calls Try.prog 34 #[.int .u8 (c : Int)] w fun e w' => e = .returned (.bool (dataN c)) ∧ w = w' := by
  unfold dataN
  have hd : decide ((c : Int) < 255) = decide ((c : Int) ≤ 254) := by
    rw [decide_eq_decide]; omega
  rw [hd]
  clear hd
  cases e1 : decide (64 ≤ (c : Int)) <;> cases e2 : decide ((c : Int) ≤ 254)
  all_goals
    go_enter Try.func34, Try.ntmps34
    go_wp2
    go_ret
    exact ⟨rfl, rfl⟩
set_option maxRecDepth 100000 in
set_option maxHeartbeats 1600000 in
theorem rdesig_is (k : Int) (hk : isPage k = true) (c : Nat) (hc : c < 256) (w : World) :
    Calls Try.prog 38 #[.int .i64 k, .int .u8 (c : Int)] w fun e w' => e = .returned (.int .i64 (desN c (signN k c))) ∧ w = w' := by
  have h00 : ∀ k, isPage k = true → (signN k 0 == 63) = false ∧ (signN k 0 == 62) = false := fun k hk => by
    rcases page_cases hk with rfl | rfl | rfl | rfl | rfl | rfl <;> decide +kernel
  have c1 := rsign_is k hk c hc w
  have h0 : ((c : Int) == 0) = true → (signN k c == 63) = false ∧ (signN k c == 62) = false := fun h => by
    have hc0 : c = 0 := by simp only [beq_iff_eq] at h; omega
    subst hc0
    exact h00 k hk
  clear h00
  unfold desN
  generalize signN k c = s at *
  cases e0 : ((c : Int) == 0) <;> cases e1 : (s == 63) <;> cases e2 : (s == 62) <;> cases e3 : (s == 32) <;> cases e4 : (s == 38)
  all_goals first | (exfalso; have := h0 e0; rw [e1, e2] at this; simp at this; done) | skip
  all_goals
    clear h0
    try simp only [Bool.false_eq_true, Bool.true_eq_false, if_true, if_false, reduceIte, reduceCtorEq]
    go_enter Try.func38, Try.ntmps38
    go_wp2_with (first
      | (go_at_call 18; with_reducible refine c1.mono ?_; rintro e w1 ⟨rfl, rfl⟩))
    go_ret
    exact ⟨rfl, rfl⟩
set_option maxRecDepth 100000 in
set_option maxHeartbeats 3200000 in
theorem rnumeric_is (k : Int) (hk : isPage k = true) (c : Nat) (hc : c < 256) (w : World) :
    Calls Try.prog 35 #[.int .i64 k, .int .u8 (c : Int)] w fun e w' => e = .returned (.bool (numN c (signN k c))) ∧ w = w' := by
  have c1 := rsign_is k hk c hc w
  have c2 := rdata_is c hc
  unfold numN numSig
  generalize signN k c = s at *
  generalize dataN (c : Int) = d at *
  cases e0 : ((c : Int) == 28)
  · cases d
    · go_enter Try.func35, Try.ntmps35
      go_wp2_with (first
        | (go_at_call 18; with_reducible refine c1.mono ?_; rintro e w1 ⟨rfl, rfl⟩)
        | (go_at_call 34; with_reducible refine (c2 _).mono ?_; rintro e w2 ⟨rfl, rfl⟩))
      go_ret
      exact ⟨rfl, rfl⟩
    · cases e1 : decide (48 ≤ s) <;> cases e2 : decide (s ≤ 57) <;> cases e3 : (s == 46) <;> cases e4 : (s == 45)
      all_goals
        have h1 := e1
        have h2 := e2
        have h3 := e3
        have h4 := e4
        simp only [decide_eq_true_eq, decide_eq_false_iff_not, beq_iff_eq, beq_eq_false_iff_ne] at h1 h2 h3 h4
      all_goals first | (exfalso; omega) | skip
      all_goals
        clear h3 h4
        go_enter Try.func35, Try.ntmps35
        go_wp2_with (first
          | (go_at_call 18; with_reducible refine c1.mono ?_; rintro e w1 ⟨rfl, rfl⟩)
          | (go_at_call 34; with_reducible refine (c2 _).mono ?_; rintro e w2 ⟨rfl, rfl⟩))
        go_ret
        exact ⟨rfl, rfl⟩
  · clear c2
    go_enter Try.func35, Try.ntmps35
    go_wp2_with (first
        | (go_at_call 18; with_reducible refine c1.mono ?_; rintro e w1 ⟨rfl, rfl⟩))
    go_ret
    exact ⟨rfl, rfl⟩
end Go.Proofs.Ythdoighlfoinaaa
