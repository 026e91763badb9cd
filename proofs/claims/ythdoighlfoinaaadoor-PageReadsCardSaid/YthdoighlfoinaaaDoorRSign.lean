/-
  What the reference's Sign and Code compute on a page. No condition.
-/
import Derived.Test.YthdoighlfoinaaaDoorPage2
namespace Go.Proofs.YthdoighlfoinaaaDoor
open Go.RowKit
set_option linter.unusedVariables false
set_option linter.unusedSimpArgs false

theorem strB_cut (l : List UInt8) (i j : Nat) : ((strB l).extract i j).data.toList = (l.drop i).take (j - i) := by
  simp [strB, ByteArray.data_extract, List.extract_eq_take_drop]
theorem strB_size (l : List UInt8) : (strB l).size = l.length := by simp [strB, ByteArray.size]
theorem cut_size (l : List UInt8) (i j : Nat) (h : j ≤ i + 4) : ((strB l).extract i j).size ≤ 4 := by
  have h1 : ((strB l).extract i j).data.toList.length ≤ 4 := by rw [strB_cut]; simp; omega
  show ((strB l).extract i j).data.size ≤ 4
  rw [← Array.length_toList]
  exact h1
theorem num_cut (l : List UInt8) (i j n : Nat) (h : j = i + n) (hn : n ≤ 4) (v : Int) (hv : numOf (partB l i n) = v) (w : World) :
    Calls Tryd.prog 33 #[.string ((strB l).extract i j)] w fun e w' => e = .returned (.int .i64 v) ∧ w = w' := by
  refine (num_any _ w (cut_size l i j (by omega))).mono ?_
  rintro e w' ⟨rfl, rfl⟩
  exact ⟨ret_int (by rw [strB_cut, ← hv, show j - i = n by omega]; rfl), rfl⟩
abbrev baseTxt : ByteArray := { data := #[48, 48, 48, 48, 48, 48, 48, 49, 48, 48, 48, 50, 48, 48, 48, 51, 48, 48, 57, 99, 48, 48, 48, 57, 48, 48, 56, 54, 48, 48, 55, 102, 48, 48, 57, 55, 48, 48, 56, 100, 48, 48, 56, 101, 48, 48, 48, 98, 48, 48, 48, 99, 48, 48, 48, 100, 48, 48, 48, 101, 48, 48, 48, 102, 48, 48, 49, 48, 48, 48, 49, 49, 48, 48, 49, 50, 48, 48, 49, 51, 48, 48, 57, 100, 48, 48, 56, 53, 48, 48, 48, 56, 48, 48, 56, 55, 48, 48, 49, 56, 48, 48, 49, 57, 48, 48, 57, 50, 48, 48, 56, 102, 48, 48, 49, 99, 48, 48, 49, 100, 48, 48, 49, 101, 48, 48, 49, 102, 48, 48, 56, 48, 48, 48, 56, 49, 48, 48, 56, 50, 48, 48, 56, 51, 48, 48, 56, 52, 48, 48, 48, 97, 48, 48, 49, 55, 48, 48, 49, 98, 48, 48, 56, 56, 48, 48, 56, 57, 48, 48, 56, 97, 48, 48, 56, 98, 48, 48, 56, 99, 48, 48, 48, 53, 48, 48, 48, 54, 48, 48, 48, 55, 48, 48, 57, 48, 48, 48, 57, 49, 48, 48, 49, 54, 48, 48, 57, 51, 48, 48, 57, 52, 48, 48, 57, 53, 48, 48, 57, 54, 48, 48, 48, 52, 48, 48, 57, 56, 48, 48, 57, 57, 48, 48, 57, 97, 48, 48, 57, 98, 48, 48, 49, 52, 48, 48, 49, 53, 48, 48, 57, 101, 48, 48, 49, 97, 48, 48, 50, 48, 48, 48, 97, 48, 48, 48, 101, 50, 48, 48, 101, 52, 48, 48, 101, 48, 48, 48, 101, 49, 48, 48, 101, 51, 48, 48, 101, 53, 48, 48, 101, 55, 48, 48, 102, 49, 48, 48, 97, 50, 48, 48, 50, 101, 48, 48, 51, 99, 48, 48, 50, 56, 48, 48, 50, 98, 48, 48, 55, 99, 48, 48, 50, 54, 48, 48, 101, 57, 48, 48, 101, 97, 48, 48, 101, 98, 48, 48, 101, 56, 48, 48, 101, 100, 48, 48, 101, 101, 48, 48, 101, 102, 48, 48, 101, 99, 48, 48, 100, 102, 48, 48, 50, 49, 48, 48, 50, 52, 48, 48, 50, 97, 48, 48, 50, 57, 48, 48, 51, 98, 48, 48, 97, 99, 48, 48, 50, 100, 48, 48, 50, 102, 48, 48, 99, 50, 48, 48, 99, 52, 48, 48, 99, 48, 48, 48, 99, 49, 48, 48, 99, 51, 48, 48, 99, 53, 48, 48, 99, 55, 48, 48, 100, 49, 48, 48, 97, 54, 48, 48, 50, 99, 48, 48, 50, 53, 48, 48, 53, 102, 48, 48, 51, 101, 48, 48, 51, 102, 48, 48, 102, 56, 48, 48, 99, 57, 48, 48, 99, 97, 48, 48, 99, 98, 48, 48, 99, 56, 48, 48, 99, 100, 48, 48, 99, 101, 48, 48, 99, 102, 48, 48, 99, 99, 48, 48, 54, 48, 48, 48, 51, 97, 48, 48, 50, 51, 48, 48, 52, 48, 48, 48, 50, 55, 48, 48, 51, 100, 48, 48, 50, 50, 48, 48, 100, 56, 48, 48, 54, 49, 48, 48, 54, 50, 48, 48, 54, 51, 48, 48, 54, 52, 48, 48, 54, 53, 48, 48, 54, 54, 48, 48, 54, 55, 48, 48, 54, 56, 48, 48, 54, 57, 48, 48, 97, 98, 48, 48, 98, 98, 48, 48, 102, 48, 48, 48, 102, 100, 48, 48, 102, 101, 48, 48, 98, 49, 48, 48, 98, 48, 48, 48, 54, 97, 48, 48, 54, 98, 48, 48, 54, 99, 48, 48, 54, 100, 48, 48, 54, 101, 48, 48, 54, 102, 48, 48, 55, 48, 48, 48, 55, 49, 48, 48, 55, 50, 48, 48, 97, 97, 48, 48, 98, 97, 48, 48, 101, 54, 48, 48, 98, 56, 48, 48, 99, 54, 48, 48, 97, 52, 48, 48, 98, 53, 48, 48, 55, 101, 48, 48, 55, 51, 48, 48, 55, 52, 48, 48, 55, 53, 48, 48, 55, 54, 48, 48, 55, 55, 48, 48, 55, 56, 48, 48, 55, 57, 48, 48, 55, 97, 48, 48, 97, 49, 48, 48, 98, 102, 48, 48, 100, 48, 48, 48, 100, 100, 48, 48, 100, 101, 48, 48, 97, 101, 48, 48, 53, 101, 48, 48, 97, 51, 48, 48, 97, 53, 48, 48, 98, 55, 48, 48, 97, 57, 48, 48, 97, 55, 48, 48, 98, 54, 48, 48, 98, 99, 48, 48, 98, 100, 48, 48, 98, 101, 48, 48, 53, 98, 48, 48, 53, 100, 48, 48, 97, 102, 48, 48, 97, 56, 48, 48, 98, 52, 48, 48, 100, 55, 48, 48, 55, 98, 48, 48, 52, 49, 48, 48, 52, 50, 48, 48, 52, 51, 48, 48, 52, 52, 48, 48, 52, 53, 48, 48, 52, 54, 48, 48, 52, 55, 48, 48, 52, 56, 48, 48, 52, 57, 48, 48, 97, 100, 48, 48, 102, 52, 48, 48, 102, 54, 48, 48, 102, 50, 48, 48, 102, 51, 48, 48, 102, 53, 48, 48, 55, 100, 48, 48, 52, 97, 48, 48, 52, 98, 48, 48, 52, 99, 48, 48, 52, 100, 48, 48, 52, 101, 48, 48, 52, 102, 48, 48, 53, 48, 48, 48, 53, 49, 48, 48, 53, 50, 48, 48, 98, 57, 48, 48, 102, 98, 48, 48, 102, 99, 48, 48, 102, 57, 48, 48, 102, 97, 48, 48, 102, 102, 48, 48, 53, 99, 48, 48, 102, 55, 48, 48, 53, 51, 48, 48, 53, 52, 48, 48, 53, 53, 48, 48, 53, 54, 48, 48, 53, 55, 48, 48, 53, 56, 48, 48, 53, 57, 48, 48, 53, 97, 48, 48, 98, 50, 48, 48, 100, 52, 48, 48, 100, 54, 48, 48, 100, 50, 48, 48, 100, 51, 48, 48, 100, 53, 48, 48, 51, 48, 48, 48, 51, 49, 48, 48, 51, 50, 48, 48, 51, 51, 48, 48, 51, 52, 48, 48, 51, 53, 48, 48, 51, 54, 48, 48, 51, 55, 48, 48, 51, 56, 48, 48, 51, 57, 48, 48, 98, 51, 48, 48, 100, 98, 48, 48, 100, 99, 48, 48, 100, 57, 48, 48, 100, 97, 48, 48, 57, 102] }
theorem base_txt : baseTxt = strB baseB := by kernel_rfl
theorem num_base (i j n : Nat) (h : j = i + n) (hn : n ≤ 4) (v : Int) (hv : numOf (partB baseB i n) = v) (w : World) :
    Calls Tryd.prog 33 #[.string (baseTxt.extract i j)] w fun e w' => e = .returned (.int .i64 v) ∧ w = w' := by
  rw [base_txt]
  exact num_cut baseB i j n h hn v hv w
theorem oth_len (k : Int) : (othB k).length = 6 * ((othB k).length / 6) ∧ (othB k).length ≤ 150 := by
  unfold othB
  split
  · decide +kernel
  split
  · decide +kernel
  split
  · decide +kernel
  split
  · decide +kernel
  split
  · decide +kernel
  decide +kernel
theorem base_len : baseB.length = 1024 := by decide +kernel
theorem row_some {l : List UInt8} {c : Int} {j : Nat} (hj : j < l.length / 6) (h : hitB l c j = true) (hn : ∀ d, d < j → hitB l c d = false) : rowB l c = some j := by
  rw [rowB, List.find?_range_eq_some]
  exact ⟨h, List.mem_range.2 hj, fun d hd => by simp [hn d hd]⟩
theorem row_none {l : List UInt8} {c : Int} (hn : ∀ d, d < l.length / 6 → hitB l c d = false) : rowB l c = none := by
  rw [rowB, List.find?_eq_none]
  intro d hd
  simp [hn d (List.mem_range.1 hd)]
theorem num_bd2 (l : List UInt8) (i n : Nat) (hn : n ≤ 4) : 0 ≤ numOf (partB l i n) ∧ numOf (partB l i n) ≤ 1114112 := numOf_bd _ (by simp [partB]; omega)
set_option maxRecDepth 100000 in
set_option maxHeartbeats 1600000 in
theorem rsign_raw (k : Int) (hk : isPage k = true) (c : Nat) (hc : c < 256) (w : World) :
    Calls Tryd.prog 23 #[.int .i64 k, .int .u8 (c : Int)] w fun e w' => e = .returned (.int .i32 (refSign k c)) ∧ w = w' := by
  go_enter Tryd.func23, Tryd.ntmps23
  go_wp2_with (go_at_call 32; refine (ref_others_is k hk _).mono ?_; rintro e w' ⟨rfl, rfl⟩)
  obtain ⟨hl6, hl150⟩ := oth_len k
  have hsz := strB_size (othB k)
  have hbl := base_len
  have hbs := strB_size baseB
  have HRS : Hid (∀ j, j < (othB k).length / 6 → hitB (othB k) c j = true → (∀ d, d < j → hitB (othB k) c d = false) → refSign k c = numOf (partB (othB k) (6 * j + 2) 4)) := Lib.hid fun j hj h h2 => by
    unfold refSign; rw [row_some hj h h2]
  have HRN : Hid ((∀ d, d < (othB k).length / 6 → hitB (othB k) c d = false) → refSign k c = numOf (partB baseB (4 * c) 4)) := Lib.hid fun h => by
    unfold refSign; rw [row_none h]
  generalize othB k = L at *
  obtain ⟨n, hn⟩ : ∃ n, n = L.length / 6 := ⟨_, rfl⟩
  rw [← hn] at hl6 HRS HRN
  rw [hl6] at hsz
  have hn25 : n ≤ 25 := by omega
  clear hn hl150 hl6
  go_loop [7] (fun q => ∃ j : Nat, j ≤ n ∧ q = .int .i64 ((6 * j : Nat) : Int) ∧ ∀ d, d < j → hitB L c d = false) (fun q => 6 * n - (intOf q).toNat)
  case atStart => exact ⟨0, by omega, rfl, fun d hd => absurd hd (by omega)⟩
  case round =>
    obtain ⟨j, hj, rfl, hno⟩ := hrel
    by_cases hlt : j < n
    · obtain ⟨v1, hv1⟩ : ∃ v1, numOf (partB L (6 * j) 2) = v1 := ⟨_, rfl⟩
      obtain ⟨v2, hv2⟩ : ∃ v2, numOf (partB L (6 * j + 2) 4) = v2 := ⟨_, rfl⟩
      have hb1 := num_bd2 L (6 * j) 2 (by omega)
      have hb2 := num_bd2 L (6 * j + 2) 4 (by omega)
      have hh : hitB L c j = (v1 == (c : Int)) := by unfold hitB; rw [hv1]
      rw [hv1] at hb1
      rw [hv2] at hb2
      cases hcv : (v1 == (c : Int))
      · have HH : Hid (hitB L c j = false) := Lib.hid (hh.trans hcv)
        clear hh
        go_wp2_with (go_at_call 33; with_reducible refine (num_cut L (6 * j) (6 * j + 2) 2 rfl (by omega) v1 hv1 _).mono ?_; rintro e w' ⟨rfl, rfl⟩)
        go_round
        case rel => exact ⟨j + 1, by omega, by go_num, fun d hd => by
          rcases Nat.lt_or_ge d j with h | h
          · exact hno d h
          · obtain rfl : d = j := by omega
            exact HH.out⟩
        case measure => simp [intOf]; omega
      · have HH : Hid (refSign k c = v2) := Lib.hid ((HRS.out j hlt (hh.trans hcv) hno).trans hv2)
        clear hh
        go_wp2_with (go_at_call 33; first | (with_reducible refine (num_cut L (6 * j) (6 * j + 2) 2 rfl (by omega) v1 hv1 _).mono ?_; rintro e w' ⟨rfl, rfl⟩) | (with_reducible refine (num_cut L (6 * j + 2) (6 * j + 6) 4 rfl (by omega) v2 hv2 _).mono ?_; rintro e w' ⟨rfl, rfl⟩))
        go_ret
        exact ⟨ret_int HH.out.symm, rfl⟩
    · obtain ⟨v1, hv1⟩ : ∃ v1, numOf (partB baseB (4 * c) 4) = v1 := ⟨_, rfl⟩
      have hb1 := num_bd2 baseB (4 * c) 4 (by omega)
      have HH : Hid (refSign k c = v1) := Lib.hid ((HRN.out fun d hd => hno d (by omega)).trans hv1)
      rw [hv1] at hb1
      go_wp2_with (go_at_call 33; with_reducible refine (num_base (4 * c) (4 * c + 4) 4 rfl (by omega) v1 hv1 _).mono ?_; rintro e w' ⟨rfl, rfl⟩)
      go_ret
      exact ⟨ret_int HH.out.symm, rfl⟩
theorem rsign_is (k : Int) (hk : isPage k = true) (c : Nat) (hc : c < 256) (w : World) :
    Calls Tryd.prog 23 #[.int .i64 k, .int .u8 (c : Int)] w fun e w' => e = .returned (.int .i32 (signN k c)) ∧ w = w' := by
  rw [← refSign_is hk hc]
  exact rsign_raw k hk c hc w
/-- the reference's code of a sign; -1: it has none -/
def refCode (k s : Int) : Int := match codeN k s with | some c => (c : Int) | none => -1
theorem refCode_some {k s : Int} {c : Nat} (hc : c < 256) (hs : (signN k c == s) = true) (hno : ∀ d, d < c → (signN k d == s) = false) : refCode k s = c := by
  unfold refCode
  rw [code_some hc (by simpa using hs) (fun d hd => by simpa using hno d hd)]
theorem refCode_none {k s : Int} (hno : ∀ d, d < 256 → (signN k d == s) = false) : refCode k s = -1 := by
  unfold refCode
  rw [code_none (fun d hd => by simpa using hno d hd)]
set_option maxRecDepth 100000 in
set_option maxHeartbeats 1600000 in
theorem rcode_is (k : Int) (hk : isPage k = true) (s : Int) (w : World) :
    Calls Tryd.prog 15 #[.int .i64 k, .int .i32 s] w fun e w' => e = .returned (.int .i64 (refCode k s)) ∧ w = w' := by
  go_enter Tryd.func15, Tryd.ntmps15
  go_wp2_with fail
  go_loop [5] (fun q => ∃ j : Nat, j ≤ 256 ∧ q = .int .i64 (j : Int) ∧ ∀ d, d < j → (signN k d == s) = false) (fun q => 256 - (intOf q).toNat)
  case atStart => exact ⟨0, by omega, rfl, fun d hd => absurd hd (by omega)⟩
  case round =>
    obtain ⟨j, hj, rfl, hno⟩ := hrel
    by_cases hlt : j < 256
    · obtain ⟨v, hv⟩ : ∃ v, signN k j = v := ⟨_, rfl⟩
      have hcon := rsign_is k hk j hlt
      rw [hv] at hcon
      cases hcv : (v == s)
      · have HH : Hid ((signN k j == s) = false) := Lib.hid (by rw [hv]; exact hcv)
        clear hv
        go_wp2_with (go_at_call 23; with_reducible refine (hcon _).mono ?_; rintro e w' ⟨rfl, rfl⟩)
        go_round
        case rel => exact ⟨j + 1, by omega, by go_num, fun d hd => by
          rcases Nat.lt_or_ge d j with h | h
          · exact hno d h
          · obtain rfl : d = j := by omega
            exact HH.out⟩
        case measure => simp [intOf]; omega
      · have HH : Hid (refCode k s = (j : Int)) := Lib.hid (refCode_some hlt (by rw [hv]; exact hcv) hno)
        clear hv
        go_wp2_with (go_at_call 23; with_reducible refine (hcon _).mono ?_; rintro e w' ⟨rfl, rfl⟩)
        go_ret
        exact ⟨ret_int HH.out.symm, rfl⟩
    · have HH : Hid (refCode k s = -1) := Lib.hid (refCode_none fun d hd => hno d (by omega))
      go_wp2_with fail
      go_ret
      exact ⟨ret_int HH.out.symm, rfl⟩
end Go.Proofs.YthdoighlfoinaaaDoor
