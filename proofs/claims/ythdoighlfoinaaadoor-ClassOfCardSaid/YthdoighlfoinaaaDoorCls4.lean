/-
  Classes of codes: Of, and the reference's; a page or none is picked; awake. No condition.
-/
import Derived.Test.YthdoighlfoinaaaDoorCls3
namespace Go.Proofs.YthdoighlfoinaaaDoor
open Go.RowKit Go.Maps
set_option linter.unusedVariables false
set_option linter.unusedSimpArgs false

def fmtL : List Int := [12, 13, 21, 25, 28, 30, 63]
def fmtC (j : Nat) : Int := fmtL.getD j 0
def fmtN (c : Int) : Bool := c == 12 || c == 13 || c == 21 || c == 25 || c == 28 || c == 30 || c == 63
def clsN (c s : Int) : Int := if (c == 0) = true then 0 else if fmtN c = true then 1 else if (c == 64) = true then 4 else if (c == 255) = true then 2 else if decide (c < 64) = true then 3 else sigN s
set_option maxRecDepth 100000 in
set_option maxHeartbeats 3200000 in
theorem of_is (p : Option Nat) (k : Int) (hk : isPage k = true) (c : Nat) (hc : c < 256) (w : World) (h : PgAt w p k) :
    Calls Tryd.prog 7 #[pv p, .int .u8 (c : Int)] w fun e w' => e = .returned (.int .i64 (clsN c (signN k c))) ∧ PgAt w' p k ∧ NearP p w w' := by
  have c1 := csign_is p k hk c hc w h
  have c2 := signed_is (signN k c)
  unfold clsN fmtN
  generalize sigN (signN k c) = v at *
  generalize signN k c = s at *
  cases e0 : ((c : Int) == 0)
  · cases e12 : ((c : Int) == 12)
    · cases e13 : ((c : Int) == 13)
      · cases e21 : ((c : Int) == 21)
        · cases e25 : ((c : Int) == 25)
          · cases e28 : ((c : Int) == 28)
            · cases e30 : ((c : Int) == 30)
              · cases e63 : ((c : Int) == 63)
                · cases e64 : ((c : Int) == 64)
                  · cases e255 : ((c : Int) == 255)
                    · cases elt : decide ((c : Int) < 64)
                      · try simp only [Bool.false_eq_true, Bool.true_eq_false, if_true, if_false, reduceIte, reduceCtorEq, Bool.or_true, Bool.true_or, Bool.or_false, Bool.false_or, Bool.and_true, Bool.and_false, Bool.true_and, Bool.false_and, Bool.or_self]
                        go_enter Tryd.func7, Tryd.ntmps7
                        go_wp2_with (first
                          | (go_at_call 22; with_reducible refine c1.mono ?_; rintro e w1 ⟨rfl, hp1, hn1⟩)
                          | (go_at_call 21; with_reducible refine (c2 _).mono ?_; rintro e w2 ⟨rfl, rfl⟩))
                        go_ret
                        exact ⟨rfl, hp1, hn1⟩
                      · try simp only [Bool.false_eq_true, Bool.true_eq_false, if_true, if_false, reduceIte, reduceCtorEq, Bool.or_true, Bool.true_or, Bool.or_false, Bool.false_or, Bool.and_true, Bool.and_false, Bool.true_and, Bool.false_and, Bool.or_self]
                        go_enter Tryd.func7, Tryd.ntmps7
                        go_wp2_with (first
                          | (go_at_call 22; with_reducible refine c1.mono ?_; rintro e w1 ⟨rfl, hp1, hn1⟩)
                          | (go_at_call 21; with_reducible refine (c2 _).mono ?_; rintro e w2 ⟨rfl, rfl⟩))
                        go_ret
                        exact ⟨rfl, h, NearP.refl p w⟩
                    · try simp only [Bool.false_eq_true, Bool.true_eq_false, if_true, if_false, reduceIte, reduceCtorEq, Bool.or_true, Bool.true_or, Bool.or_false, Bool.false_or, Bool.and_true, Bool.and_false, Bool.true_and, Bool.false_and, Bool.or_self]
                      go_enter Tryd.func7, Tryd.ntmps7
                      go_wp2_with (first
                        | (go_at_call 22; with_reducible refine c1.mono ?_; rintro e w1 ⟨rfl, hp1, hn1⟩)
                        | (go_at_call 21; with_reducible refine (c2 _).mono ?_; rintro e w2 ⟨rfl, rfl⟩))
                      go_ret
                      exact ⟨rfl, h, NearP.refl p w⟩
                  · try simp only [Bool.false_eq_true, Bool.true_eq_false, if_true, if_false, reduceIte, reduceCtorEq, Bool.or_true, Bool.true_or, Bool.or_false, Bool.false_or, Bool.and_true, Bool.and_false, Bool.true_and, Bool.false_and, Bool.or_self]
                    go_enter Tryd.func7, Tryd.ntmps7
                    go_wp2_with (first
                      | (go_at_call 22; with_reducible refine c1.mono ?_; rintro e w1 ⟨rfl, hp1, hn1⟩)
                      | (go_at_call 21; with_reducible refine (c2 _).mono ?_; rintro e w2 ⟨rfl, rfl⟩))
                    go_ret
                    exact ⟨rfl, h, NearP.refl p w⟩
                · try simp only [Bool.false_eq_true, Bool.true_eq_false, if_true, if_false, reduceIte, reduceCtorEq, Bool.or_true, Bool.true_or, Bool.or_false, Bool.false_or, Bool.and_true, Bool.and_false, Bool.true_and, Bool.false_and, Bool.or_self]
                  go_enter Tryd.func7, Tryd.ntmps7
                  go_wp2_with (first
                    | (go_at_call 22; with_reducible refine c1.mono ?_; rintro e w1 ⟨rfl, hp1, hn1⟩)
                    | (go_at_call 21; with_reducible refine (c2 _).mono ?_; rintro e w2 ⟨rfl, rfl⟩))
                  go_ret
                  exact ⟨rfl, h, NearP.refl p w⟩
              · try simp only [Bool.false_eq_true, Bool.true_eq_false, if_true, if_false, reduceIte, reduceCtorEq, Bool.or_true, Bool.true_or, Bool.or_false, Bool.false_or, Bool.and_true, Bool.and_false, Bool.true_and, Bool.false_and, Bool.or_self]
                go_enter Tryd.func7, Tryd.ntmps7
                go_wp2_with (first
                  | (go_at_call 22; with_reducible refine c1.mono ?_; rintro e w1 ⟨rfl, hp1, hn1⟩)
                  | (go_at_call 21; with_reducible refine (c2 _).mono ?_; rintro e w2 ⟨rfl, rfl⟩))
                go_ret
                exact ⟨rfl, h, NearP.refl p w⟩
            · try simp only [Bool.false_eq_true, Bool.true_eq_false, if_true, if_false, reduceIte, reduceCtorEq, Bool.or_true, Bool.true_or, Bool.or_false, Bool.false_or, Bool.and_true, Bool.and_false, Bool.true_and, Bool.false_and, Bool.or_self]
              go_enter Tryd.func7, Tryd.ntmps7
              go_wp2_with (first
                | (go_at_call 22; with_reducible refine c1.mono ?_; rintro e w1 ⟨rfl, hp1, hn1⟩)
                | (go_at_call 21; with_reducible refine (c2 _).mono ?_; rintro e w2 ⟨rfl, rfl⟩))
              go_ret
              exact ⟨rfl, h, NearP.refl p w⟩
          · try simp only [Bool.false_eq_true, Bool.true_eq_false, if_true, if_false, reduceIte, reduceCtorEq, Bool.or_true, Bool.true_or, Bool.or_false, Bool.false_or, Bool.and_true, Bool.and_false, Bool.true_and, Bool.false_and, Bool.or_self]
            go_enter Tryd.func7, Tryd.ntmps7
            go_wp2_with (first
              | (go_at_call 22; with_reducible refine c1.mono ?_; rintro e w1 ⟨rfl, hp1, hn1⟩)
              | (go_at_call 21; with_reducible refine (c2 _).mono ?_; rintro e w2 ⟨rfl, rfl⟩))
            go_ret
            exact ⟨rfl, h, NearP.refl p w⟩
        · try simp only [Bool.false_eq_true, Bool.true_eq_false, if_true, if_false, reduceIte, reduceCtorEq, Bool.or_true, Bool.true_or, Bool.or_false, Bool.false_or, Bool.and_true, Bool.and_false, Bool.true_and, Bool.false_and, Bool.or_self]
          go_enter Tryd.func7, Tryd.ntmps7
          go_wp2_with (first
            | (go_at_call 22; with_reducible refine c1.mono ?_; rintro e w1 ⟨rfl, hp1, hn1⟩)
            | (go_at_call 21; with_reducible refine (c2 _).mono ?_; rintro e w2 ⟨rfl, rfl⟩))
          go_ret
          exact ⟨rfl, h, NearP.refl p w⟩
      · try simp only [Bool.false_eq_true, Bool.true_eq_false, if_true, if_false, reduceIte, reduceCtorEq, Bool.or_true, Bool.true_or, Bool.or_false, Bool.false_or, Bool.and_true, Bool.and_false, Bool.true_and, Bool.false_and, Bool.or_self]
        go_enter Tryd.func7, Tryd.ntmps7
        go_wp2_with (first
          | (go_at_call 22; with_reducible refine c1.mono ?_; rintro e w1 ⟨rfl, hp1, hn1⟩)
          | (go_at_call 21; with_reducible refine (c2 _).mono ?_; rintro e w2 ⟨rfl, rfl⟩))
        go_ret
        exact ⟨rfl, h, NearP.refl p w⟩
    · try simp only [Bool.false_eq_true, Bool.true_eq_false, if_true, if_false, reduceIte, reduceCtorEq, Bool.or_true, Bool.true_or, Bool.or_false, Bool.false_or, Bool.and_true, Bool.and_false, Bool.true_and, Bool.false_and, Bool.or_self]
      go_enter Tryd.func7, Tryd.ntmps7
      go_wp2_with (first
        | (go_at_call 22; with_reducible refine c1.mono ?_; rintro e w1 ⟨rfl, hp1, hn1⟩)
        | (go_at_call 21; with_reducible refine (c2 _).mono ?_; rintro e w2 ⟨rfl, rfl⟩))
      go_ret
      exact ⟨rfl, h, NearP.refl p w⟩
  · try simp only [Bool.false_eq_true, Bool.true_eq_false, if_true, if_false, reduceIte, reduceCtorEq, Bool.or_true, Bool.true_or, Bool.or_false, Bool.false_or, Bool.and_true, Bool.and_false, Bool.true_and, Bool.false_and, Bool.or_self]
    go_enter Tryd.func7, Tryd.ntmps7
    go_wp2_with (first
      | (go_at_call 22; with_reducible refine c1.mono ?_; rintro e w1 ⟨rfl, hp1, hn1⟩)
      | (go_at_call 21; with_reducible refine (c2 _).mono ?_; rintro e w2 ⟨rfl, rfl⟩))
    go_ret
    exact ⟨rfl, h, NearP.refl p w⟩
end Go.Proofs.YthdoighlfoinaaaDoor
