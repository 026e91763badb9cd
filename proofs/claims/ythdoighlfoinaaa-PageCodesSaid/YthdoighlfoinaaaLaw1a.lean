/-
  The walks of PageSigns and PageCodes. No condition.
-/
import Derived.Test.YthdoighlfoinaaaPage8
namespace Go.Proofs.Ythdoighlfoinaaa
open Go.RowKit Go.Maps
set_option linter.unusedVariables false
set_option linter.unusedSimpArgs false

theorem code_sign {k : Int} (hk : isPage k = true) {c : Nat} (hc : c < 256) : codeV k (signN k c) = (c : Int) ∧ (codeN k (signN k c)).isSome = true := by
  unfold codeV
  rw [code_of hk hc]
  exact ⟨rfl, rfl⟩
set_option maxRecDepth 100000 in
set_option maxHeartbeats 1600000 in
theorem law_signs (n : Int) (w : World) (hn0 : 0 ≤ n) (hn1 : n ≤ 255) :
    Calls Try.prog 5 #[.int .u8 n] w fun e w' => e = .returned (.bool true) ∧ Up w w' := by
  have hnot : ∀ (x : Bool) (w : World), (Op.unary .not (.bool x)).run Try.prog w = .ok (.bool (!x)) w := fun _ _ => rfl
  go_enter Try.func5, Try.ntmps5
  go_wp2_with (first | (go_at_call 13; refine (awake01 _).mono ?_; rintro e w1 ⟨rfl, hu1⟩) | (go_at_call 14; refine (pick_is n ⟨hn0, hn1⟩ _).mono ?_; rintro e w2 ⟨b, k, rfl, hk, hb, hp, hu2⟩))
  go_loopw [16] (fun q wr => ∃ c : Nat, c ≤ 256 ∧ q = .int .i64 (c : Int) ∧ PAt wr b k ∧ Near b w2 wr) (fun q _ => 256 - (intOf q).toNat)
  case atStart => exact ⟨0, by omega, rfl, hp, Near.refl b w2⟩
  case round =>
    obtain ⟨c, hc, rfl, hp, hn⟩ := hrel
    by_cases hlt : c < 256
    · obtain ⟨h1, h2⟩ := code_sign hk hlt
      obtain ⟨hb1, hb2⟩ := sign_bd hk hlt
      have c1 := sign_at b k hk c hlt
      have c2 := code_at b k hk (signN k c) (wf_i32 (by omega))
      rw [h1, h2] at c2
      have c3 := rsign_is k hk c hlt
      generalize signN k c = s at *
      have HP := Lib.hid hp
      have HN := Lib.hid hn
      clear hp hn
      go_wp2_with (first
        | (go_at_call 17; with_reducible refine (c1 _ HP.out).mono ?_; rintro e w3 ⟨rfl, hp3, hn3⟩)
        | (go_at_call 15; with_reducible refine (c2 _ hp3).mono ?_; rintro e w4 ⟨rfl, hp4, hn4⟩)
        | (go_at_call 18; with_reducible refine (c3 _).mono ?_; rintro e w5 ⟨rfl, rfl⟩))
      go_roundw
      case rel => exact ⟨c + 1, by omega, by go_num, hp4, (HN.out.trans hn3).trans hn4⟩
      case measure => simp [intOf]; omega
    · have HN := Lib.hid hn
      clear hn
      go_wp2_with (go_at_call 19; with_reducible refine (number_at b k _ hp).mono ?_; rintro e w5 ⟨rfl, rfl⟩)
      go_ret
      exact ⟨rfl, (hu1.trans hu2).keep (E := fun i => i = b) HN.out (fun i hi => by subst hi; have := hu1.size; omega)⟩
set_option maxRecDepth 100000 in
set_option maxHeartbeats 1600000 in
theorem law_codes (n s : Int) (w : World) (hn0 : 0 ≤ n) (hn1 : n ≤ 255) (hs0 : -2147483648 ≤ s) (hs1 : s ≤ 2147483647) :
    Calls Try.prog 3 #[.int .u8 n, .int .i32 s] w fun e w' => e = .returned (.bool true) ∧ Up w w' := by
  have hnot : ∀ (x : Bool) (w : World), (Op.unary .not (.bool x)).run Try.prog w = .ok (.bool (!x)) w := fun _ _ => rfl
  have hwf : (Lit.int .i32 s).wf = true := by
    have h1 : IntKind.min .i32 = -2147483648 := by decide
    have h2 : IntKind.max .i32 = 2147483647 := by decide
    simp only [Lit.wf, h1, h2, Bool.and_eq_true, decide_eq_true_eq]
    omega
  have cc : ∀ k, isPage k = true → ((codeN k s).isSome = true ∧ 0 ≤ codeV k s ∧ codeV k s ≤ 255 ∧ refCode k s = codeV k s) ∨ ((codeN k s).isSome = false ∧ codeV k s = 0 ∧ refCode k s = -1) := fun k hk => by
    unfold refCode codeV
    cases hc : codeN k s with
    | none => exact .inr ⟨rfl, rfl, rfl⟩
    | some c => exact .inl ⟨rfl, by simp, by have := (code_lt hc).1; simp; omega, rfl⟩
  go_enter Try.func3, Try.ntmps3
  go_wp2_with (first | (go_at_call 13; refine (awake01 _).mono ?_; rintro e w1 ⟨rfl, hu1⟩) | (go_at_call 14; refine (pick_is n ⟨hn0, hn1⟩ _).mono ?_; rintro e w2 ⟨b, k, rfl, hk, hb, hp, hu2⟩))
  have hz : w.heap.size ≤ b := by have := hu1.size; omega
  have HU := Lib.hid (hu1.trans hu2)
  clear hu1 hu2
  rcases cc k hk with ⟨h1, h2, h3, h4⟩ | ⟨h1, h2, h4⟩
  · have c2 := code_at b k hk s hwf _ hp
    rw [h1] at c2
    have c4 := rcode_is k hk s
    rw [h4] at c4
    clear h1 h4 cc
    generalize codeV k s = v at *
    go_wp2_with (first | (go_at_call 15; with_reducible refine c2.mono ?_; rintro e w3 ⟨rfl, hp3, hn3⟩) | (go_at_call 16; with_reducible refine (c4 _).mono ?_; rintro e w5 ⟨rfl, rfl⟩))
    go_ret
    exact ⟨rfl, HU.out.keep (E := fun i => i = b) hn3 (fun i hi => by subst hi; exact hz)⟩
  · have c2 := code_at b k hk s hwf _ hp
    rw [h1, h2] at c2
    have c4 := rcode_is k hk s
    rw [h4] at c4
    clear h1 h2 h4 cc
    go_wp2_with (first | (go_at_call 15; with_reducible refine c2.mono ?_; rintro e w3 ⟨rfl, hp3, hn3⟩) | (go_at_call 16; with_reducible refine (c4 _).mono ?_; rintro e w5 ⟨rfl, rfl⟩))
    go_ret
    exact ⟨rfl, HU.out.keep (E := fun i => i = b) hn3 (fun i hi => by subst hi; exact hz)⟩
end Go.Proofs.Ythdoighlfoinaaa
