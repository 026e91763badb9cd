/-
  What the reference's Command and Byte compute. No condition.
-/
import Derived.Test.YtfambgigdhkiaaaDoorCmd
namespace Go.Proofs.YtfambgigdhkiaaaDoor
open Go.RowKit
set_option linter.unusedVariables false
set_option linter.unusedSimpArgs false

def cmdText : ByteArray := { data := #[48, 51, 48, 49, 48, 53, 48, 100, 48, 102, 48, 50, 48, 54, 48, 101, 49, 49, 48, 51, 102, 49, 102, 53, 55, 101, 54, 102, 102, 50, 102, 54, 54, 101, 102, 51] }
def cNum (i : Nat) : Int := if i < 9 then cOne i else cOth (i - 9)
theorem cmd_num0 : ∀ k : Fin 18, (cmdText.extract (2 * k.val) (2 * k.val + 2)).size ≤ 4 ∧ numOf (cmdText.extract (2 * k.val) (2 * k.val + 2)).data.toList = cNum k.val := by decide +kernel
theorem cmd_num (m : Nat) (w : World) (h : m < 18) : Calls Tryd.prog 47 #[.string (cmdText.extract (2 * m) (2 * m + 2))] w fun e w' => e = .returned (.int .i64 (cNum m)) ∧ w = w' := by
  have h0 := cmd_num0 ⟨m, h⟩
  refine (num_any _ w h0.1).mono ?_
  rintro e w' ⟨rfl, rfl⟩
  exact ⟨ret_int h0.2, rfl⟩
/-- the reference's number of a command; -1: none -/
def refCmd (b : Int) : Int := match cmdOf b with | some i => (i : Int) | none => -1
theorem refCmd_hit0 : ∀ (k : Fin 18) (j : Fin 18), cNum k.val = cNum j.val → k.val % 9 = j.val % 9 := by decide +kernel
theorem refCmd_some {b : Int} {i : Nat} (hi : i < 18) (h : cNum i = b) : refCmd b = ((i % 9 : Nat) : Int) := by
  have key : ∀ j, j < 9 → hitC b j = true → j = i % 9 := fun j hj hh => by
    unfold hitC at hh
    rw [Bool.or_eq_true] at hh
    rcases hh with hh | hh
    · have : cNum j = b := by unfold cNum; rw [if_pos hj]; simpa using hh
      have := refCmd_hit0 ⟨j, by omega⟩ ⟨i, hi⟩ (this.trans h.symm)
      simp only at this
      omega
    · have : cNum (j + 9) = b := by unfold cNum; rw [if_neg (by omega)]; simpa using hh
      have := refCmd_hit0 ⟨j + 9, by omega⟩ ⟨i, hi⟩ (this.trans h.symm)
      simp only at this
      omega
  have hit : hitC b (i % 9) = true := by
    unfold hitC
    rw [Bool.or_eq_true]
    by_cases h9 : i < 9
    · left
      unfold cNum at h
      rw [if_pos h9] at h
      rw [Nat.mod_eq_of_lt h9]
      simpa using h
    · right
      unfold cNum at h
      rw [if_neg h9] at h
      rw [show i % 9 = i - 9 by omega]
      simpa using h
  have : cmdOf b = some (i % 9) := find_range (by omega) hit (fun j hj => by
    cases hh : hitC b j
    · rfl
    · exact absurd (key j (by omega) hh) (by omega))
  unfold refCmd
  rw [this]
theorem refCmd_none {b : Int} (h : ∀ i, i < 18 → (cNum i == b) = false) : refCmd b = -1 := by
  have : cmdOf b = none := find_none fun j hj => by
    have h1 := h j (by omega)
    have h2 := h (j + 9) (by omega)
    unfold cNum at h1 h2
    rw [if_pos hj] at h1
    rw [if_neg (by omega), show j + 9 - 9 = j by omega] at h2
    unfold hitC
    rw [h1, h2]
    rfl
  unfold refCmd
  rw [this]
theorem slice_cmd (i : Nat) (h : i < 18) : (2 * i : Nat) + 2 ≤ cmdText.size := by
  have : cmdText.size = 36 := rfl
  omega
set_option maxHeartbeats 1600000 in
theorem ref_cmd_is (b : Int) (w : World) (hb : 0 ≤ b ∧ b ≤ 255) :
    Calls Tryd.prog 38 #[.int .u8 b] w fun e w' => e = .returned (.int .i64 (refCmd b)) ∧ w = w' := by
  have ha : Tryd.prog = Tryd.prog := rfl
  go_enter Tryd.func38, Tryd.ntmps38
  go_wp2
  go_loop [3] (fun q => ∃ i : Nat, i ≤ 18 ∧ q = .int .i64 (i : Int) ∧ ∀ j, j < i → (cNum j == b) = false) (fun q => 18 - (intOf q).toNat)
  case atStart => exact ⟨0, by omega, rfl, fun _ h => by omega⟩
  case round =>
    obtain ⟨i, hi, rfl, hno⟩ := hrel
    have HN := Lib.hid hno
    clear hno
    by_cases hlt : i < 18
    · cases h1 : (cNum i == b)
      · have H1 := Lib.hid h1
        go_wp2_with (go_at_call 47; refine (cmd_num i _ hlt).mono ?_; rintro e w1 ⟨rfl, rfl⟩)
        go_round
        case rel =>
          refine ⟨i + 1, by omega, by go_num, fun j hj => ?_⟩
          rcases Nat.lt_or_ge j i with h | h
          · exact HN.out j h
          · obtain rfl : j = i := by omega
            exact H1.out
        case measure => simp [intOf]; omega
      · have hc := Lib.hid (refCmd_some hlt (by simpa using h1))
        go_wp2_with (go_at_call 47; refine (cmd_num i _ hlt).mono ?_; rintro e w1 ⟨rfl, rfl⟩)
        go_ret
        exact ⟨ret_int (by rw [hc.out]; simp), rfl⟩
    · obtain rfl : i = 18 := by omega
      have hc := Lib.hid (refCmd_none HN.out)
      go_wp2
      go_ret
      rw [hc.out]
      exact ⟨rfl, rfl⟩
theorem cmd_num2 (m : Nat) (w : World) (h : m < 9) : Calls Tryd.prog 47 #[.string (cmdText.extract (18 + 2 * m) (20 + 2 * m))] w fun e w' => e = .returned (.int .i64 (cOth m)) ∧ w = w' := by
  have := cmd_num (m + 9) w (by omega)
  rw [show 2 * (m + 9) = 18 + 2 * m by omega, show 18 + 2 * m + 2 = 20 + 2 * m by omega] at this
  unfold cNum at this
  rw [if_neg (by omega), show m + 9 - 9 = m by omega] at this
  exact this
theorem cOth_bd (m : Nat) : 0 ≤ cOth m ∧ cOth m ≤ 255 := by
  rcases Nat.lt_or_ge m 9 with h | h
  · have : ∀ k : Fin 9, 0 ≤ cOth k.val ∧ cOth k.val ≤ 255 := by decide +kernel
    exact this ⟨m, h⟩
  · have : cOth m = 0 := by
      unfold cOth
      rw [List.getD_eq_getElem?_getD, List.getElem?_eq_none (by simpa [cmds] using h)]
      rfl
    omega
set_option maxHeartbeats 1600000 in
theorem ref_byte_is (c : Int) (w : World) :
    Calls Tryd.prog 41 #[.int .i64 c] w fun e w' => e = .returned (.int .u8 (byteOf c)) ∧ w = w' := by
  by_cases hc : 0 ≤ c ∧ c < 9
  · obtain ⟨h0, h9⟩ := hc
    have hb := Lib.hid (show byteOf c = cOth c.toNat by unfold byteOf; rw [if_pos ⟨h0, h9⟩])
    obtain ⟨i, rfl⟩ := Int.eq_ofNat_of_zero_le h0
    have hi : i < 9 := by omega
    have hbd := cOth_bd i
    rw [Int.toNat_natCast] at hb
    go_enter Tryd.func41, Tryd.ntmps41
    go_wp2_with (go_at_call 47; refine (cmd_num2 i _ hi).mono ?_; rintro e w1 ⟨rfl, rfl⟩)
    go_ret
    exact ⟨ret_int (by rw [hb.out]), rfl⟩
  · have hb := Lib.hid (show byteOf c = 0 by unfold byteOf; rw [if_neg hc])
    have hc' : c < 0 ∨ 8 < c := by omega
    clear hc
    rcases hc' with hc | hc
    all_goals
      go_enter Tryd.func41, Tryd.ntmps41
      go_wp2
      go_ret
      rw [hb.out]
      exact ⟨rfl, rfl⟩
end Go.Proofs.YtfambgigdhkiaaaDoor
