/-
  Classes of codes: Shown, Designator, and the reference's. No condition.
-/
import Derived.Test.YthdoighlfoinaaaDoorCls1
namespace Go.Proofs.YthdoighlfoinaaaDoor
open Go.RowKit Go.Maps
set_option linter.unusedVariables false
set_option linter.unusedSimpArgs false

def shownN (c s : Int) : Int := if (c == 28) = true then 42 else if (c == 30) = true then 59 else if (c == 63) = true then 191 else if dataN c = false then 32 else if hidN s = true then 32 else s
def desN (c s : Int) : Int := if (c == 0) = true then 3 else if (s == 63) = true then 1 else if (s == 62) = true then 2 else if (s == 32) = true then 3 else if (s == 38) = true then 4 else 0
set_option maxRecDepth 100000 in
set_option maxHeartbeats 1600000 in
theorem shown_is (p : Option Nat) (k : Int) (hk : isPage k = true) (c : Nat) (hc : c < 256) (w : World) (h : PgAt w p k) :
    Calls Tryd.prog 20 #[pv p, .int .u8 (c : Int)] w fun e w' => e = .returned (.int .i32 (shownN c (signN k c))) ∧ PgAt w' p k ∧ NearP p w w' := by
  have hnot : ∀ (x : Bool) (w : World), (Op.unary .not (.bool x)).run Tryd.prog w = .ok (.bool (!x)) w := fun _ _ => rfl
  unfold shownN
  have c1 := csign_is p k hk c hc w h
  have c2 := data_is (c : Int)
  have c3 := hidden_is (signN k c)
  generalize hidN (signN k c) = hs at *
  generalize signN k c = s at *
  generalize dataN (c : Int) = d at *
  cases e0 : ((c : Int) == 28) <;> cases e1 : ((c : Int) == 30) <;> cases e2 : ((c : Int) == 63) <;> cases d <;> cases hs
  all_goals
    try simp only [Bool.false_eq_true, Bool.true_eq_false, if_true, if_false, reduceIte, reduceCtorEq]
    go_enter Tryd.func20, Tryd.ntmps20
    go_wp2_with (first
      | (go_at_call 22; with_reducible refine c1.mono ?_; rintro e w1 ⟨rfl, hp1, hn1⟩)
      | (go_at_call 31; with_reducible refine (c3 _).mono ?_; rintro e w3 ⟨rfl, rfl⟩)
      | (go_at_call 30; with_reducible refine (c2 _).mono ?_; rintro e w2 ⟨rfl, rfl⟩))
    go_ret
    first | exact ⟨rfl, hp1, hn1⟩ | exact ⟨rfl, h, NearP.refl p w⟩
end Go.Proofs.YthdoighlfoinaaaDoor
