/-
  The reference's graphic escapes; the walk of PageEscapes. No condition.
-/
import Derived.Test.YthdoighlfoinaaaEsc
namespace Go.Proofs.Ythdoighlfoinaaa
open Go.RowKit Go.Maps
set_option linter.unusedVariables false
set_option linter.unusedSimpArgs false

abbrev escTxt : ByteArray := { data := #[55, 48, 50, 50, 50, 55, 56, 53, 50, 53, 48, 50, 56, 97, 50, 49, 57, 49, 56, 98, 50, 49, 57, 51, 56, 99, 50, 50, 54, 52, 56, 102, 50, 49, 57, 50, 57, 102, 50, 49, 57, 48, 97, 50, 50, 53, 48, 48, 97, 101, 50, 50, 54, 53, 98, 101, 50, 50, 54, 48, 99, 52, 50, 53, 49, 52, 99, 53, 50, 53, 48, 99, 99, 54, 50, 53, 49, 99, 99, 55, 50, 53, 51, 52, 100, 51, 50, 53, 51, 99, 100, 52, 50, 53, 49, 56, 100, 53, 50, 53, 49, 48, 100, 54, 50, 53, 50, 52, 100, 55, 50, 53, 50, 99] }
theorem esc_txt : escTxt = strB escB := by kernel_rfl
theorem esc_num0 : ∀ j : Fin 19, numOf (partB escB (6 * j.val) 2) = escC j.val ∧ numOf (partB escB (6 * j.val + 2) 4) = escS j.val := by decide +kernel
theorem num_esc (i j n : Nat) (h : j = i + n) (hn : n ≤ 4) (v : Int) (hv : numOf (partB escB i n) = v) (w : World) :
    Calls Try.prog 50 #[.string (escTxt.extract i j)] w fun e w' => e = .returned (.int .i64 v) ∧ w = w' := by
  rw [esc_txt]
  exact num_cut escB i j n h hn v hv w
set_option maxRecDepth 100000 in
set_option maxHeartbeats 1600000 in
theorem resc_is (c : Int) (hc : 0 ≤ c ∧ c ≤ 255) (w : World) :
    Calls Try.prog 25 #[.int .u8 c] w fun e w' => e = .returned (.int .i32 (escOf c)) ∧ w = w' := by
  have hts : escTxt.size = 114 := rfl
  go_enter Try.func25, Try.ntmps25
  go_wp2_with fail
  go_loop [3] (fun q => ∃ j : Nat, j ≤ 19 ∧ q = .int .i64 ((6 * j : Nat) : Int) ∧ ∀ d, d < j → (escC d == c) = false) (fun q => 114 - (intOf q).toNat)
  case atStart => exact ⟨0, by omega, rfl, fun d hd => absurd hd (by omega)⟩
  case round =>
    obtain ⟨j, hj, rfl, hno⟩ := hrel
    by_cases hlt : j < 19
    · obtain ⟨hv1, hv2⟩ := esc_num0 ⟨j, hlt⟩
      simp only at hv1 hv2
      obtain ⟨⟨hx0, hx1⟩, hy0, hy1⟩ := esc_bd hlt
      cases hcv : (escC j == c)
      · have HH : Hid ((escC j == c) = false) := Lib.hid hcv
        generalize hxx : escC j = x at *
        have HX := Lib.hid hxx
        clear hxx
        go_wp2_with (go_at_call 50; with_reducible refine (num_esc (6 * j) (6 * j + 2) 2 rfl (by omega) x hv1 _).mono ?_; rintro e w' ⟨rfl, rfl⟩)
        go_round
        case rel => exact ⟨j + 1, by omega, by go_num, fun d hd => by
          rcases Nat.lt_or_ge d j with h | h
          · exact hno d h
          · obtain rfl : d = j := by omega
            rw [HX.out]; exact HH.out⟩
        case measure => simp [intOf]; omega
      · have HH := Lib.hid (esc_hit hlt hcv hno).1
        generalize escC j = x at *
        generalize escS j = y at *
        go_wp2_with (go_at_call 50; first | (with_reducible refine (num_esc (6 * j) (6 * j + 2) 2 rfl (by omega) x hv1 _).mono ?_; rintro e w' ⟨rfl, rfl⟩) | (with_reducible refine (num_esc (6 * j + 2) (6 * j + 6) 4 rfl (by omega) y hv2 _).mono ?_; rintro e w' ⟨rfl, rfl⟩))
        go_ret
        exact ⟨ret_int HH.out.symm, rfl⟩
    · have HH := Lib.hid (esc_no (c := c) (fun d hd => hno d (by omega))).1
      go_wp2_with fail
      go_ret
      exact ⟨ret_int HH.out.symm, rfl⟩
theorem escOf_bd (c : Int) : 0 ≤ escOf c ∧ escOf c ≤ 65535 := by
  unfold escOf
  cases h : escFind c with
  | none => exact ⟨by decide, by decide⟩
  | some j =>
    obtain ⟨_, h1, h2⟩ := esc_bd (List.mem_range.1 (List.mem_of_find?_eq_some h))
    exact ⟨by show 0 ≤ escS j; omega, h2⟩
set_option maxRecDepth 100000 in
set_option maxHeartbeats 1600000 in
theorem rescd_is (s : Int) (w : World) :
    Calls Try.prog 24 #[.int .i32 s] w fun e w' => e = .returned (.int .i64 (refE s)) ∧ w = w' := by
  go_enter Try.func24, Try.ntmps24
  go_wp2_with fail
  go_loop [3] (fun q => ∃ j : Nat, j ≤ 256 ∧ q = .int .i64 (j : Int) ∧ ∀ d, d < j → refHit s d = false) (fun q => 256 - (intOf q).toNat)
  case atStart => exact ⟨0, by omega, rfl, fun d hd => absurd hd (by omega)⟩
  case round =>
    obtain ⟨j, hj, rfl, hno⟩ := hrel
    by_cases hlt : j < 256
    · have hh : refHit s j = (escOf (j : Int) != 0 && escOf (j : Int) == s) := rfl
      obtain ⟨hb0, hb1⟩ := escOf_bd (j : Int)
      have c1 := resc_is (j : Int) (by omega)
      generalize escOf (j : Int) = v at *
      cases hc0 : (v != 0) <;> cases hcs : (v == s)
      all_goals rw [hc0, hcs] at hh
      · have HH : Hid (refHit s j = false) := Lib.hid hh
        clear hh
        go_wp2_with (go_at_call 25; with_reducible refine (c1 _).mono ?_; rintro e w' ⟨rfl, rfl⟩)
        go_round
        case rel => exact ⟨j + 1, by omega, by go_num, fun d hd => by
          rcases Nat.lt_or_ge d j with h | h
          · exact hno d h
          · obtain rfl : d = j := by omega
            exact HH.out⟩
        case measure => simp [intOf]; omega
      · have HH : Hid (refHit s j = false) := Lib.hid hh
        clear hh
        go_wp2_with (go_at_call 25; with_reducible refine (c1 _).mono ?_; rintro e w' ⟨rfl, rfl⟩)
        go_round
        case rel => exact ⟨j + 1, by omega, by go_num, fun d hd => by
          rcases Nat.lt_or_ge d j with h | h
          · exact hno d h
          · obtain rfl : d = j := by omega
            exact HH.out⟩
        case measure => simp [intOf]; omega
      · have HH : Hid (refHit s j = false) := Lib.hid hh
        clear hh
        go_wp2_with (go_at_call 25; with_reducible refine (c1 _).mono ?_; rintro e w' ⟨rfl, rfl⟩)
        go_round
        case rel => exact ⟨j + 1, by omega, by go_num, fun d hd => by
          rcases Nat.lt_or_ge d j with h | h
          · exact hno d h
          · obtain rfl : d = j := by omega
            exact HH.out⟩
        case measure => simp [intOf]; omega
      · have HH : Hid (refE s = (j : Int)) := Lib.hid (by unfold refE; rw [find_at hlt hh hno])
        clear hh
        go_wp2_with (go_at_call 25; with_reducible refine (c1 _).mono ?_; rintro e w' ⟨rfl, rfl⟩)
        go_ret
        exact ⟨ret_int HH.out.symm, rfl⟩
    · have HH : Hid (refE s = -1) := Lib.hid (by unfold refE; rw [find_no fun d hd => hno d (by omega)])
      go_wp2_with fail
      go_ret
      exact ⟨ret_int HH.out.symm, rfl⟩
theorem sgnOf_bd (s : Int) : 0 ≤ sgnOf s ∧ sgnOf s ≤ 255 ∧ (sgnHas s = false → sgnOf s = 0) := by
  unfold sgnOf sgnHas
  cases h : sgnFind s with
  | none => exact ⟨by decide, by decide, fun _ => rfl⟩
  | some j =>
    obtain ⟨⟨h1, h2⟩, _, _⟩ := esc_bd (List.mem_range.1 (List.mem_of_find?_eq_some h))
    exact ⟨h1, h2, fun h => by simp at h⟩
set_option maxRecDepth 100000 in
set_option maxHeartbeats 1600000 in
theorem law_escapes (c s : Int) (w : World) (hc0 : 0 ≤ c) (hc1 : c ≤ 255) (hs0 : -2147483648 ≤ s) (hs1 : s ≤ 2147483647) :
    Calls Try.prog 7 #[.int .u8 c, .int .i32 s] w fun e w' => e = .returned (.bool true) ∧ Up w w' := by
  have hnot : ∀ (x : Bool) (w : World), (Op.unary .not (.bool x)).run Try.prog w = .ok (.bool (!x)) w := fun _ _ => rfl
  have k1 := esc_is c
  rw [escHas_is c] at k1
  have k2 := escd_is s
  have k3 := rescd_is s
  rw [refE_is s] at k3
  have k4 := resc_is c ⟨hc0, hc1⟩
  obtain ⟨hb0, hb1, hb2⟩ := sgnOf_bd s
  cases hsh : sgnHas s
  · have hz := hb2 hsh
    rw [hsh, hz] at k2
    rw [hsh] at k3
    simp only [if_neg Bool.false_ne_true] at k3
    clear hb0 hb1 hb2 hz hsh
    generalize escOf c = v at *
    cases hv : (v != 0)
    all_goals
      rw [hv] at k1
      go_enter Try.func7, Try.ntmps7
      go_wp2_with (first
        | (go_at_call 13; refine (awake01 _).mono ?_; rintro e w1 ⟨rfl, hu1⟩)
        | (go_at_call 22; with_reducible refine (k1 _).mono ?_; rintro e w2 ⟨rfl, hu2⟩)
        | (go_at_call 23; with_reducible refine (k2 _).mono ?_; rintro e w3 ⟨rfl, hu3⟩)
        | (go_at_call 24; with_reducible refine (k3 _).mono ?_; rintro e w4 ⟨rfl, rfl⟩)
        | (go_at_call 25; with_reducible refine (k4 _).mono ?_; rintro e w5 ⟨rfl, rfl⟩))
      go_ret
      exact ⟨rfl, (hu1.trans hu2).trans hu3⟩
  · rw [hsh] at k2 k3
    simp only [if_true] at k3
    clear hb2 hsh
    generalize escOf c = v at *
    generalize sgnOf s = u at *
    cases hv : (v != 0)
    all_goals
      rw [hv] at k1
      go_enter Try.func7, Try.ntmps7
      go_wp2_with (first
        | (go_at_call 13; refine (awake01 _).mono ?_; rintro e w1 ⟨rfl, hu1⟩)
        | (go_at_call 22; with_reducible refine (k1 _).mono ?_; rintro e w2 ⟨rfl, hu2⟩)
        | (go_at_call 23; with_reducible refine (k2 _).mono ?_; rintro e w3 ⟨rfl, hu3⟩)
        | (go_at_call 24; with_reducible refine (k3 _).mono ?_; rintro e w4 ⟨rfl, rfl⟩)
        | (go_at_call 25; with_reducible refine (k4 _).mono ?_; rintro e w5 ⟨rfl, rfl⟩))
      go_ret
      exact ⟨rfl, (hu1.trans hu2).trans hu3⟩
end Go.Proofs.Ythdoighlfoinaaa
