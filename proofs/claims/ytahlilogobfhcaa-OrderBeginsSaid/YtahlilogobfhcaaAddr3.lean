/-
  What addr's and the reference's Unsix, Encode, Decode and Model compute. No condition.
-/
import Derived.Test.YtahlilogobfhcaaAddr2
import Derived.Test.YtahlilogobfhcaaMade
namespace Go.Proofs.Ytahlilogobfhcaa
open Go.RowKit
set_option linter.unusedVariables false
set_option linter.unusedSimpArgs false

theorem sixOf_mod (n : Int) : sixOf (n % 64) = sixOf n := by unfold sixOf; rw [Int.emod_emod_of_dvd _ (by decide)]
/-- the number of a code -/
def unsixOf (b : Int) : Int := match (List.range 64).find? (fun n : Nat => sixOf (n : Int) == b) with
  | some n => n
  | none => b % 64
theorem find_hit {p : Nat → Bool} {j m : Nat} (hj : j < m) (hp : p j = true) (hno : ∀ t, t < j → p t = false) : (List.range m).find? p = some j := by
  rw [List.find?_range_eq_some]
  exact ⟨hp, List.mem_range.2 hj, fun t ht => by simp [hno t ht]⟩
theorem unsix_hit (j : Nat) (b : Int) (hj : j < 64) (h : sixOf j = b) (hno : ∀ t : Nat, t < j → sixOf t ≠ b) : unsixOf b = j := by
  unfold unsixOf
  rw [find_hit hj (by simpa using h) (fun t ht => by simpa using hno t ht)]
theorem unsix_miss (b : Int) (hno : ∀ t : Nat, t < 64 → sixOf t ≠ b) : unsixOf b = b % 64 := by
  unfold unsixOf
  have : (List.range 64).find? (fun n : Nat => sixOf (n : Int) == b) = none := by
    rw [List.find?_eq_none]
    intro t ht
    have := hno t (by simpa using ht)
    simpa using this
  rw [this]
theorem unsix_bd (b : Int) : 0 ≤ unsixOf b ∧ unsixOf b ≤ 63 := by
  unfold unsixOf
  split
  · rename_i n hn
    have := List.mem_range.1 (List.mem_of_find?_eq_some hn)
    omega
  · omega

set_option maxHeartbeats 800000 in
theorem unsix_any (b : Int) (w : World) (h0 : 0 ≤ b) (h1 : b ≤ 255) :
    Calls Try.prog 28 #[.int .u8 b] w fun e w' => e = .returned (.int .i64 (unsixOf b)) ∧ w = w' := by
  have hand : bits .and .u8 b 63 = b % 64 := by
    rw [u8_and _ _ h0 (by omega) (by decide) (by decide), show (63 : Int).toNat = 63 from rfl, nat_mask6]
    omega
  go_enter Try.func28, Try.ntmps28
  go_wp2
  go_loop [4] (fun i => ∃ j : Nat, j ≤ 64 ∧ i = .int .i64 (j : Int) ∧ ∀ t : Nat, t < j → sixOf t ≠ b) (fun i => 64 - (intOf i).toNat)
  case atStart => exact ⟨0, by omega, rfl, by omega⟩
  case round =>
    obtain ⟨j, hj, rfl, hno⟩ := hrel
    have HN := Lib.hid hno
    clear hno
    by_cases hlt : j < 64
    · cases hb : (sixOf (j : Int) == b)
      · go_wp2_with (go_at_call 29; refine (six_any _ _).mono ?_; rintro e w' ⟨rfl, rfl⟩)
        go_round
        case rel =>
          refine ⟨j + 1, by omega, by go_num, fun t ht => ?_⟩
          rcases Nat.lt_or_ge t j with h | h
          · exact HN.out t h
          · obtain rfl : t = j := by omega
            simpa using hb
        case measure => simp [intOf]; omega
      · go_wp2_with (go_at_call 29; refine (six_any _ _).mono ?_; rintro e w' ⟨rfl, rfl⟩)
        go_ret
        exact ⟨ret_int (unsix_hit j b hlt (by simpa using hb) HN.out).symm, rfl⟩
    · obtain rfl : j = 64 := by omega
      go_wp2
      go_ret
      exact ⟨ret_int (by rw [unsix_miss b HN.out]), rfl⟩

end Go.Proofs.Ytahlilogobfhcaa
