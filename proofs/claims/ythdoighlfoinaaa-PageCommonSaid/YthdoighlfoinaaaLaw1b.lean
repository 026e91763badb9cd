/-
  The great letters: what Upper and the reference's Upper compute; the walk of PageUppers. No condition.
-/
import Derived.Test.YthdoighlfoinaaaPage8
namespace Go.Proofs.Ythdoighlfoinaaa
open Go.RowKit Go.Maps
set_option linter.unusedVariables false
set_option linter.unusedSimpArgs false

def smallS (s : Int) : Bool := (decide (97 ≤ s) && decide (s ≤ 122)) || (decide (224 ≤ s) && decide (s ≤ 254) && (s != 247))
/-- the great letter's code -/
def upN (k : Int) (c : Nat) : Nat := if smallS (signN k c) then (codeN k (signN k c - 32)).getD c else c
theorem up_lt {k : Int} {c : Nat} (hc : c < 256) : upN k c < 256 := by
  unfold upN
  split
  · cases h : codeN k (signN k c - 32) with
    | none => exact hc
    | some d => exact (code_lt h).1
  · exact hc
def twiceB (k : Int) : Bool := (List.range 256).all fun c => upN k (upN k c) == upN k c
theorem twice_all : twiceB 37 = true ∧ twiceB 273 = true ∧ twiceB 297 = true ∧ twiceB 500 = true ∧ twiceB 1047 = true ∧ twiceB 1140 = true := by decide +kernel
theorem up_twice {k : Int} (hk : isPage k = true) {c : Nat} (hc : c < 256) : upN k (upN k c) = upN k c := by
  have h : twiceB k = true := by
    obtain ⟨h1, h2, h3, h4, h5, h6⟩ := twice_all
    rcases page_cases hk with rfl | rfl | rfl | rfl | rfl | rfl
    · exact h1
    · exact h2
    · exact h3
    · exact h4
    · exact h5
    · exact h6
  have := List.all_eq_true.1 h c (List.mem_range.2 hc)
  simpa using this
theorem wf_i32' {s : Int} (h : -2147483648 ≤ s ∧ s ≤ 2147483647) : (Lit.int .i32 s).wf = true := by
  have h1 : IntKind.min .i32 = -2147483648 := by decide
  have h2 : IntKind.max .i32 = 2147483647 := by decide
  simp only [Lit.wf, h1, h2, Bool.and_eq_true, decide_eq_true_eq]
  omega
set_option maxRecDepth 100000 in
set_option maxHeartbeats 800000 in
theorem small_is (s : Int) (w : World) : Calls Try.prog 51 #[.int .i32 s] w fun e w' => e = .returned (.bool (smallS s)) ∧ w = w' := by
  unfold smallS
  by_cases h1 : 97 ≤ s <;> by_cases h2 : s ≤ 122 <;> by_cases h3 : 224 ≤ s <;> by_cases h4 : s ≤ 254 <;> by_cases h5 : s = 247 <;> try omega
  all_goals
    go_enter Try.func51, Try.ntmps51
    go_wp2
    go_ret
    first | exact ⟨rfl, rfl⟩ | (refine ⟨ret_bool ?_, rfl⟩; simp [h1, h2, h3, h4, h5])
set_option maxRecDepth 100000 in
set_option maxHeartbeats 1600000 in
theorem upper_at (b : Nat) (k : Int) (hk : isPage k = true) (c : Nat) (hc : c < 256) (w : World) (h : PAt w b k) :
    Calls Try.prog 20 #[.pointer (some ⟨b, 0, none⟩), .int .u8 (c : Int)] w fun e w' => e = .returned (.int .u8 (upN k c : Nat)) ∧ PAt w' b k ∧ Near b w w' := by
  have hnot : ∀ (x : Bool) (w : World), (Op.unary .not (.bool x)).run Try.prog w = .ok (.bool (!x)) w := fun _ _ => rfl
  obtain ⟨hs0, hs1⟩ := sign_bd hk hc
  have c1 := sign_at b k hk c hc w h
  have c2 := code_at b k hk (signN k c - 32) (wf_i32' (by omega))
  have HU : Hid (upN k c = if smallS (signN k c) then (codeN k (signN k c - 32)).getD c else c) := Lib.hid rfl
  have cs : ∀ w, _ := small_is (signN k c)
  generalize signN k c = s at *
  cases hsm : smallS s
  · rw [hsm] at cs
    have HE : Hid (upN k c = c) := Lib.hid (by rw [HU.out, hsm]; rfl)
    clear hsm c2
    go_enter Try.func20, Try.ntmps20
    go_wp2_with (first
        | (go_at_call 17; with_reducible refine c1.mono ?_; rintro e w3 ⟨rfl, hp3, hn3⟩)
        | (go_at_call 51; with_reducible refine (cs _).mono ?_; rintro e w5 ⟨rfl, rfl⟩))
    go_ret
    exact ⟨ret_int (congrArg (fun x : Nat => (x : Int)) HE.out).symm, hp3, hn3⟩
  · rw [hsm] at cs
    cases hcn : codeN k (s - 32) with
    | none =>
      have HE : Hid (upN k c = c) := Lib.hid (by rw [HU.out, hsm, hcn]; rfl)
      have hv : codeV k (s - 32) = 0 := by unfold codeV; rw [hcn]; rfl
      have hi : (codeN k (s - 32)).isSome = false := by rw [hcn]; rfl
      rw [hv, hi] at c2
      clear hsm hv hi hcn
      go_enter Try.func20, Try.ntmps20
      go_wp2_with (first
        | (go_at_call 17; with_reducible refine c1.mono ?_; rintro e w3 ⟨rfl, hp3, hn3⟩)
        | (go_at_call 15; with_reducible refine (c2 _ hp3).mono ?_; rintro e w4 ⟨rfl, hp4, hn4⟩)
        | (go_at_call 51; with_reducible refine (cs _).mono ?_; rintro e w5 ⟨rfl, rfl⟩))
      go_ret
      exact ⟨ret_int (congrArg (fun x : Nat => (x : Int)) HE.out).symm, hp4, hn3.trans hn4⟩
    | some d =>
      have HE : Hid (upN k c = d) := Lib.hid (by rw [HU.out, hsm, hcn]; rfl)
      have hv : codeV k (s - 32) = (d : Int) := by unfold codeV; rw [hcn]; rfl
      have hi : (codeN k (s - 32)).isSome = true := by rw [hcn]; rfl
      rw [hv, hi] at c2
      clear hsm hv hi hcn
      go_enter Try.func20, Try.ntmps20
      go_wp2_with (first
        | (go_at_call 17; with_reducible refine c1.mono ?_; rintro e w3 ⟨rfl, hp3, hn3⟩)
        | (go_at_call 15; with_reducible refine (c2 _ hp3).mono ?_; rintro e w4 ⟨rfl, hp4, hn4⟩)
        | (go_at_call 51; with_reducible refine (cs _).mono ?_; rintro e w5 ⟨rfl, rfl⟩))
      go_ret
      exact ⟨ret_int (congrArg (fun x : Nat => (x : Int)) HE.out).symm, hp4, hn3.trans hn4⟩
set_option maxRecDepth 100000 in
set_option maxHeartbeats 1600000 in
theorem rupper_is (k : Int) (hk : isPage k = true) (c : Nat) (hc : c < 256) (w : World) :
    Calls Try.prog 21 #[.int .i64 k, .int .u8 (c : Int)] w fun e w' => e = .returned (.int .u8 (upN k c : Nat)) ∧ w = w' := by
  have hnot : ∀ (x : Bool) (w : World), (Op.unary .not (.bool x)).run Try.prog w = .ok (.bool (!x)) w := fun _ _ => rfl
  obtain ⟨hs0, hs1⟩ := sign_bd hk hc
  have c1 := rsign_is k hk c hc w
  have c2 := rcode_is k hk (signN k c - 32)
  have HU : Hid (upN k c = if smallS (signN k c) then (codeN k (signN k c - 32)).getD c else c) := Lib.hid rfl
  generalize signN k c = s at *
  have key : Hid (refCode k (s - 32) = match codeN k (s - 32) with | some c => (c : Int) | none => -1) := Lib.hid rfl
  by_cases hsm : smallS s = true
  · cases hcn : codeN k (s - 32) with
    | none =>
      have HE : Hid (upN k c = c) := Lib.hid (by rw [HU.out, hsm, hcn]; rfl)
      have hv : refCode k (s - 32) = -1 := by rw [key.out, hcn]
      rw [hv] at c2
      clear hcn hv
      unfold smallS at hsm
      cases e1 : decide (97 ≤ s) <;> cases e2 : decide (s ≤ 122) <;> cases e3 : decide (224 ≤ s) <;> cases e4 : decide (s ≤ 254) <;> cases e5 : (s != 247)
      all_goals first | (exfalso; simp [e1, e2, e3, e4, e5] at hsm; done) | skip
      all_goals
        have h1 := e1
        have h2 := e2
        have h3 := e3
        have h4 := e4
        have h5 := e5
        simp only [decide_eq_true_eq, decide_eq_false_iff_not, bne_iff_ne, bne_eq_false_iff_eq] at h1 h2 h3 h4 h5
      all_goals first | (exfalso; omega) | skip
      all_goals
        clear hsm
        go_enter Try.func21, Try.ntmps21
        go_wp2_with (first
        | (go_at_call 18; with_reducible refine c1.mono ?_; rintro e w3 ⟨rfl, rfl⟩)
        | (go_at_call 16; with_reducible refine (c2 _).mono ?_; rintro e w4 ⟨rfl, rfl⟩))
        go_ret
        exact ⟨ret_int (congrArg (fun x : Nat => (x : Int)) HE.out).symm, rfl⟩
    | some d =>
      have hd := (code_lt hcn).1
      have HE : Hid (upN k c = d) := Lib.hid (by rw [HU.out, hsm, hcn]; rfl)
      have hv : refCode k (s - 32) = (d : Int) := by rw [key.out, hcn]
      rw [hv] at c2
      clear hcn hv
      unfold smallS at hsm
      cases e1 : decide (97 ≤ s) <;> cases e2 : decide (s ≤ 122) <;> cases e3 : decide (224 ≤ s) <;> cases e4 : decide (s ≤ 254) <;> cases e5 : (s != 247)
      all_goals first | (exfalso; simp [e1, e2, e3, e4, e5] at hsm; done) | skip
      all_goals
        have h1 := e1
        have h2 := e2
        have h3 := e3
        have h4 := e4
        have h5 := e5
        simp only [decide_eq_true_eq, decide_eq_false_iff_not, bne_iff_ne, bne_eq_false_iff_eq] at h1 h2 h3 h4 h5
      all_goals first | (exfalso; omega) | skip
      all_goals
        clear hsm
        go_enter Try.func21, Try.ntmps21
        go_wp2_with (first
        | (go_at_call 18; with_reducible refine c1.mono ?_; rintro e w3 ⟨rfl, rfl⟩)
        | (go_at_call 16; with_reducible refine (c2 _).mono ?_; rintro e w4 ⟨rfl, rfl⟩))
        go_ret
        exact ⟨ret_int (congrArg (fun x : Nat => (x : Int)) HE.out).symm, rfl⟩
  · have hsf : smallS s = false := by simpa using hsm
    have HE : Hid (upN k c = c) := Lib.hid (by rw [HU.out, hsf]; rfl)
    clear hsm c2 key
    unfold smallS at hsf
    cases e1 : decide (97 ≤ s) <;> cases e2 : decide (s ≤ 122) <;> cases e3 : decide (224 ≤ s) <;> cases e4 : decide (s ≤ 254) <;> cases e5 : (s != 247)
    all_goals first | (exfalso; simp [e1, e2, e3, e4, e5] at hsf; done) | skip
    all_goals
      have h1 := e1
      have h2 := e2
      have h3 := e3
      have h4 := e4
      have h5 := e5
      simp only [decide_eq_true_eq, decide_eq_false_iff_not, bne_iff_ne, bne_eq_false_iff_eq] at h1 h2 h3 h4 h5
    all_goals first | (exfalso; omega) | skip
    all_goals
      clear hsf
      go_enter Try.func21, Try.ntmps21
      go_wp2_with (go_at_call 18; with_reducible refine c1.mono ?_; rintro e w3 ⟨rfl, rfl⟩)
      go_ret
      exact ⟨ret_int (congrArg (fun x : Nat => (x : Int)) HE.out).symm, rfl⟩
set_option maxRecDepth 100000 in
set_option maxHeartbeats 1600000 in
theorem law_uppers (n : Int) (w : World) (hn0 : 0 ≤ n) (hn1 : n ≤ 255) :
    Calls Try.prog 6 #[.int .u8 n] w fun e w' => e = .returned (.bool true) ∧ Up w w' := by
  have hnot : ∀ (x : Bool) (w : World), (Op.unary .not (.bool x)).run Try.prog w = .ok (.bool (!x)) w := fun _ _ => rfl
  go_enter Try.func6, Try.ntmps6
  go_wp2_with (first | (go_at_call 13; refine (awake01 _).mono ?_; rintro e w1 ⟨rfl, hu1⟩) | (go_at_call 14; refine (pick_is n ⟨hn0, hn1⟩ _).mono ?_; rintro e w2 ⟨b, k, rfl, hk, hb, hp, hu2⟩))
  go_loopw [14] (fun q wr => ∃ c : Nat, c ≤ 256 ∧ q = .int .i64 (c : Int) ∧ PAt wr b k ∧ Near b w2 wr) (fun q _ => 256 - (intOf q).toNat)
  case atStart => exact ⟨0, by omega, rfl, hp, Near.refl b w2⟩
  case round =>
    obtain ⟨c, hc, rfl, hp, hn⟩ := hrel
    by_cases hlt : c < 256
    · have hu := up_lt (k := k) hlt
      have c1 := upper_at b k hk c hlt
      have c2 := upper_at b k hk (upN k c) hu
      rw [up_twice hk hlt] at c2
      have c3 := rupper_is k hk c hlt
      generalize upN k c = u at *
      have HP := Lib.hid hp
      have HN := Lib.hid hn
      clear hp hn
      go_wp2_with (first
        | (go_at_call 20; with_reducible refine (c1 _ HP.out).mono ?_; rintro e w3 ⟨rfl, hp3, hn3⟩)
        | (go_at_call 20; with_reducible refine (c2 _ hp3).mono ?_; rintro e w4 ⟨rfl, hp4, hn4⟩)
        | (go_at_call 21; with_reducible refine (c3 _).mono ?_; rintro e w5 ⟨rfl, rfl⟩))
      go_roundw
      case rel => exact ⟨c + 1, by omega, by go_num, hp4, (HN.out.trans hn3).trans hn4⟩
      case measure => simp [intOf]; omega
    · have HN := Lib.hid hn
      clear hn
      go_wp2_with fail
      go_ret
      exact ⟨rfl, (hu1.trans hu2).keep (E := fun i => i = b) HN.out (fun i hi => by subst hi; have := hu1.size; omega)⟩
end Go.Proofs.Ythdoighlfoinaaa
