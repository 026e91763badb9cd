/-
  Classes of codes: the sign by a page or none; what Data, Numeric, Shown, Designator compute. No condition.
-/
import Derived.Test.YthdoighlfoinaaaDoorPage8
namespace Go.Proofs.YthdoighlfoinaaaDoor
open Go.RowKit Go.Maps
set_option linter.unusedVariables false
set_option linter.unusedSimpArgs false

/-- a page or none -/
def pv (p : Option Nat) : Value := .pointer (p.map fun b => ⟨b, 0, none⟩)
def PgAt (w : World) (p : Option Nat) (k : Int) : Prop := match p with | none => k = 37 | some b => PAt w b k
theorem PgAt.up {w w' : World} {p : Option Nat} {k : Int} (h : PgAt w p k) (hu : Up w w') : PgAt w' p k := by
  cases p with
  | none => exact h
  | some b => exact PAt.up h hu
def NearP (p : Option Nat) (w w' : World) : Prop := Keep (fun i => p = some i) w w'
theorem NearP.refl (p : Option Nat) (w : World) : NearP p w w := Keep.refl _ w
theorem NearP.trans {p : Option Nat} {a b c : World} (h : NearP p a b) (k : NearP p b c) : NearP p a c := Keep.trans h k
theorem NearP.up {p : Option Nat} {a b c : World} (h : NearP p a b) (k : Up b c) : NearP p a c := Keep.up h k
set_option maxRecDepth 100000 in
set_option maxHeartbeats 800000 in
theorem csign_is (p : Option Nat) (k : Int) (hk : isPage k = true) (c : Nat) (hc : c < 256) (w : World) (h : PgAt w p k) :
    Calls Tryd.prog 22 #[pv p, .int .u8 (c : Int)] w fun e w' => e = .returned (.int .i32 (signN k c)) ∧ PgAt w' p k ∧ NearP p w w' := by
  cases p with
  | none =>
    have hk37 : k = 37 := h
    subst hk37
    unfold pv
    go_enter Tryd.func22, Tryd.ntmps22
    go_wp2_with (first
      | (go_at_call 18; refine (new_is 37 hk _).mono ?_; rintro e w1 ⟨b, rfl, hb, hp, hu⟩)
      | (go_at_call 25; refine (sign_at b 37 hk c hc _ hp).mono ?_; rintro e w2 ⟨rfl, hp2, hn⟩))
    go_ret
    exact ⟨rfl, rfl, Keep.of_up (hu.keep (E := fun i => i = b) hn (fun i hi => by subst hi; exact hb))⟩
  | some b =>
    have hp : PAt w b k := h
    unfold pv
    go_enter Tryd.func22, Tryd.ntmps22
    go_wp2_with (go_at_call 25; refine (sign_at b k hk c hc _ hp).mono ?_; rintro e w2 ⟨rfl, hp2, hn⟩)
    go_ret
    exact ⟨rfl, hp2, Keep.mono hn (fun i hi => by subst hi; rfl)⟩
def dataN (c : Int) : Bool := decide (64 ≤ c) && decide (c < 255)
set_option maxHeartbeats 400000 in
theorem data_is (c : Int) (w : World) : Calls Tryd.prog 30 #[.int .u8 c] w fun e w' => e = .returned (.bool (dataN c)) ∧ w = w' := by
  unfold dataN
  cases e1 : decide (64 ≤ c)
  all_goals
    go_enter Tryd.func30, Tryd.ntmps30
    go_wp2
    go_ret
    exact ⟨rfl, rfl⟩
def hidN (s : Int) : Bool := decide (s < 32) || (decide (127 ≤ s) && decide (s ≤ 159)) || s == 173
set_option maxRecDepth 100000 in
set_option maxHeartbeats 800000 in
theorem hidden_is (s : Int) (w : World) : Calls Tryd.prog 31 #[.int .i32 s] w fun e w' => e = .returned (.bool (hidN s)) ∧ w = w' := by
  unfold hidN
  cases e1 : decide (s < 32) <;> cases e2 : decide (127 ≤ s) <;> cases e3 : decide (s ≤ 159) <;> cases e4 : (s == 173)
  all_goals
    have h1 := e1
    have h2 := e2
    have h3 := e3
    have h4 := e4
    simp only [decide_eq_true_eq, decide_eq_false_iff_not, beq_iff_eq, beq_eq_false_iff_ne] at h1 h2 h3 h4
  all_goals first | (exfalso; omega) | skip
  all_goals
    clear h4
    go_enter Tryd.func31, Tryd.ntmps31
    go_wp2
    go_ret
    exact ⟨rfl, rfl⟩
def numSig (s : Int) : Bool := (decide (48 ≤ s) && decide (s ≤ 57)) || s == 46 || s == 45
def numN (c s : Int) : Bool := c == 28 || (dataN c && numSig s)
set_option maxRecDepth 100000 in
set_option maxHeartbeats 1600000 in
theorem numeric_is (p : Option Nat) (k : Int) (hk : isPage k = true) (c : Nat) (hc : c < 256) (w : World) (h : PgAt w p k) :
    Calls Tryd.prog 19 #[pv p, .int .u8 (c : Int)] w fun e w' => e = .returned (.bool (numN c (signN k c))) ∧ PgAt w' p k ∧ NearP p w w' := by
  unfold numN numSig
  have c1 := csign_is p k hk c hc w h
  have c2 := data_is (c : Int)
  generalize signN k c = s at *
  generalize dataN (c : Int) = d at *
  cases e0 : ((c : Int) == 28)
  · cases d
    · go_enter Tryd.func19, Tryd.ntmps19
      go_wp2_with (first
        | (go_at_call 22; with_reducible refine c1.mono ?_; rintro e w1 ⟨rfl, hp1, hn1⟩)
        | (go_at_call 30; with_reducible refine (c2 _).mono ?_; rintro e w2 ⟨rfl, rfl⟩))
      go_ret
      exact ⟨rfl, hp1, hn1⟩
    · cases e1 : decide (48 ≤ s) <;> cases e2 : decide (s ≤ 57) <;> cases e3 : (s == 46) <;> cases e4 : (s == 45)
      all_goals
        have h1 := e1
        have h2 := e2
        have h3 := e3
        have h4 := e4
        simp only [decide_eq_true_eq, decide_eq_false_iff_not, beq_iff_eq, beq_eq_false_iff_ne] at h1 h2 h3 h4
      all_goals first | (exfalso; omega) | skip
      all_goals
        clear h3 h4
        go_enter Tryd.func19, Tryd.ntmps19
        go_wp2_with (first
          | (go_at_call 22; with_reducible refine c1.mono ?_; rintro e w1 ⟨rfl, hp1, hn1⟩)
          | (go_at_call 30; with_reducible refine (c2 _).mono ?_; rintro e w2 ⟨rfl, rfl⟩))
        go_ret
        exact ⟨rfl, hp1, hn1⟩
  · clear c1 c2
    go_enter Tryd.func19, Tryd.ntmps19
    go_wp2_with fail
    go_ret
    exact ⟨rfl, h, NearP.refl p w⟩
end Go.Proofs.YthdoighlfoinaaaDoor
