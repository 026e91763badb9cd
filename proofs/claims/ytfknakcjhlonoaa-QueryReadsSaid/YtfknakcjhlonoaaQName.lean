/-
  The seven codes of the reference, and both names of a code. No condition.
-/
import Derived.Test.YtfknakcjhlonoaaHex
import Derived.Test.YtfknakcjhlonoaaClone
import Derived.Test.YtfknakcjhlonoaaApp
namespace Go.Proofs.Ytfknakcjhlonoaa
open Go.RowKit
set_option linter.unusedVariables false
set_option linter.unusedSimpArgs false

def cdText : ByteArray := { data := #[56, 48, 56, 49, 56, 53, 56, 54, 56, 55, 56, 56, 97, 54] }
def codesL : List Int := [128, 129, 133, 134, 135, 136, 166]
theorem cd_num0 : ∀ k : Fin 7, (cdText.extract (2 * k.val) (2 * k.val + 2)).size ≤ 4 ∧ numOf (cdText.extract (2 * k.val) (2 * k.val + 2)).data.toList = codesL.getD k.val 0 := by decide +kernel
theorem cd_num (m : Nat) (w : World) (h : m < 7) : Calls Try.prog 34 #[.string (cdText.extract (2 * m) (2 * m + 2))] w fun e w' => e = .returned (.int .i64 (codesL.getD m 0)) ∧ w = w' := by
  have h0 := cd_num0 ⟨m, h⟩
  refine (num_any _ w h0.1).mono ?_
  rintro e w' ⟨rfl, rfl⟩
  exact ⟨ret_int h0.2, rfl⟩
theorem codes_bd : ∀ x ∈ codesL, 0 ≤ x ∧ x ≤ 255 := by decide
theorem code_at : ∀ k : Fin 7, 0 ≤ codesL.getD k.val 0 ∧ codesL.getD k.val 0 ≤ 255 ∧ codesL.take (k.val + 1) = codesL.take k.val ++ [codesL.getD k.val 0] := by decide
set_option maxRecDepth 100000 in
set_option maxHeartbeats 1600000 in
theorem unhex_codes (w : World) : Calls Try.prog 27 #[.string cdText] w fun e w' => ∃ A c, e = .returned (.slice A 7 c) ∧ w'.ownsRow w.heap.size 5 1 (.slice A 7 c) 7 (bs codesL) ∧ 7 ≤ c ∧ c ≤ maxLen ∧ Up w w' := by
  obtain ⟨i0, hi, hz0, hz1, hz2⟩ := info_parts info_u8
  have hsz : cdText.size = 14 := rfl
  obtain ⟨T, hT⟩ : ∃ T, cdText = T := ⟨_, rfl⟩
  have hnum := Lib.hid (fun m W (h : m < 7) => cd_num m W h)
  rw [hT] at hsz hnum
  rw [hT]
  clear hT
  go_enter Try.func27, Try.ntmps27
  go_wp2_with fail
  go_loopw [3, 4] (fun v i wr => ∃ (j : Nat) (A1 : Option Addr) (c1 : Nat), i = .int .i64 (2 * (j : Int)) ∧ v = .slice A1 j c1 ∧ j ≤ 7 ∧ wr.ownsRow w.heap.size 5 1 (.slice A1 j c1) j (bs (codesL.take j)) ∧ j ≤ c1 ∧ c1 ≤ maxLen ∧ Up w wr) (fun _ i _ => 14 - (intOf i).toNat)
  case atStart => exact ⟨0, none, 0, rfl, rfl, by omega, World.ownsRow_nil _ _ _ _, Nat.le_refl _, by simp [maxLen], Up.refl _⟩
  case round =>
    obtain ⟨j, A1, c1, rfl, rfl, hj, hown, hle, hmx, hup⟩ := hrel
    have HOW := Lib.hid hown
    have HUP := Lib.hid hup
    have hq1 : j + 1 ≤ maxLen := by simp [maxLen]; omega
    have hq2 : (j + 1) * 1 ≤ 140737488355328 := by omega
    have hwr : w.heap.size ≤ wr.heap.size := hup.size
    clear hown hup
    by_cases hlt : j < 7
    · obtain ⟨v0, v1, hv⟩ := code_at ⟨j, hlt⟩
      simp only at v0 v1 hv
      have hnm := hnum.out j
      obtain ⟨v, hvv⟩ : ∃ v, codesL.getD j 0 = v := ⟨_, rfl⟩
      rw [hvv] at v0 v1 hv hnm
      have HV := Lib.hid hv
      have HNM := Lib.hid hnm
      clear hv hvv hnm
      go_wp2_with (first | (go_at_call 34; refine (HNM.out _ hlt).mono ?_; rintro e w1 ⟨rfl, rfl⟩) | (at_builtin; refine wpList_app _ rfl (.tmp 11) (.tmp 19) 22 rfl w.heap.size 5 i0 _ 1 1 Try.underlying22 hi hz0 hz1 hz2 rfl (by decide) A1 j c1 (bs (codesL.take j)) rfl (own_up HOW.out ((Up.refl wr).alloc _)) (wr.heap.size + 1) (some ⟨wr.heap.size, 0, none⟩) 1 1 [.int .u8 v] rfl (reads_at wr wr.heap.size 1 1 _ _ rfl rfl) (by simp [Value.oneCell']) hq1 hq2 (by simp; omega) ?_; intro A3 c3 w5 hown5 hg5 hle5 hmx5 hbl5; have HO5 := Lib.hid hown5; have HB5 := Lib.hid hbl5; clear hown5 hg5 hbl5))
      go_roundw
      case rel =>
        have hup5 : Up wr (wr.alloc (.cells #[.int .u8 v] 5)) := (Up.refl wr).alloc _
        refine ⟨j + 1, A3, c3, by first | go_num | (congr 1; omega), rfl, by omega, ?_, hle5, hmx5, (HUP.out.trans hup5).past HB5.out⟩
        rw [HV.out]
        have e9 : bs (codesL.take j ++ [v]) = bs (codesL.take j) ++ [.int .u8 v] := by simp [bs]
        rw [e9]
        exact HO5.out
      case measure => simp [intOf]; omega
    · obtain rfl : j = 7 := by omega
      go_wp2_with fail
      go_ret
      exact ⟨A1, c1, rfl, HOW.out, hle, hmx, HUP.out⟩
theorem rcodes_is (w : World) : Calls Try.prog 13 #[] w fun e w' => ∃ A c, e = .returned (.slice A 7 c) ∧ w'.ownsRow w.heap.size 5 1 (.slice A 7 c) 7 (bs codesL) ∧ 7 ≤ c ∧ c ≤ maxLen ∧ Up w w' := by
  have h := Lib.hid (unhex_codes w)
  rw [show cdText = { data := #[56, 48, 56, 49, 56, 53, 56, 54, 56, 55, 56, 56, 97, 54] } from rfl] at h
  go_enter Try.func13, Try.ntmps13
  go_wp2_with fail
  refine h.out.mono ?_
  rintro e w1 ⟨A, c, rfl, h1, h2, h3, h4⟩
  go_wp2_with fail
  go_ret
  exact ⟨A, c, rfl, h1, h2, h3, h4⟩
def nmS : Nat → ByteArray
  | 0 => { data := #[83, 117, 109, 109, 97, 114, 121] }
  | 1 => { data := #[85, 115, 97, 98, 108, 101, 65, 114, 101, 97] }
  | 2 => { data := #[67, 104, 97, 114, 97, 99, 116, 101, 114, 83, 101, 116, 115] }
  | 3 => { data := #[67, 111, 108, 111, 114] }
  | 4 => { data := #[72, 105, 103, 104, 108, 105, 103, 104, 116, 105, 110, 103] }
  | 5 => { data := #[82, 101, 112, 108, 121, 77, 111, 100, 101, 115] }
  | 6 => { data := #[73, 109, 112, 108, 105, 99, 105, 116, 80, 97, 114, 116, 105, 116, 105, 111, 110] }
  | 7 => { data := #[78, 117, 108, 108] }
  | _ => { data := #[] }
def cd8 : List Int := [128, 129, 133, 134, 135, 136, 166, 255]
/-- the number of a code among the eight; 8: it is none -/
def ixOf (code : Int) : Nat := if code = 128 then 0 else if code = 129 then 1 else if code = 133 then 2 else if code = 134 then 3 else if code = 135 then 4 else if code = 136 then 5 else if code = 166 then 6 else if code = 255 then 7 else 8
theorem name_is (code : Int) (w : World) : Calls Try.prog 19 #[.int .u8 code] w fun e w' => e = .returned (.string (nmS (ixOf code))) ∧ w = w' := by
  by_cases h0 : code = 128
  · subst h0; go_enter Try.func19, Try.ntmps19; go_wp2; go_ret; exact ⟨rfl, rfl⟩
  by_cases h1 : code = 129
  · subst h1; go_enter Try.func19, Try.ntmps19; go_wp2; go_ret; exact ⟨rfl, rfl⟩
  by_cases h2 : code = 133
  · subst h2; go_enter Try.func19, Try.ntmps19; go_wp2; go_ret; exact ⟨rfl, rfl⟩
  by_cases h3 : code = 134
  · subst h3; go_enter Try.func19, Try.ntmps19; go_wp2; go_ret; exact ⟨rfl, rfl⟩
  by_cases h4 : code = 135
  · subst h4; go_enter Try.func19, Try.ntmps19; go_wp2; go_ret; exact ⟨rfl, rfl⟩
  by_cases h5 : code = 136
  · subst h5; go_enter Try.func19, Try.ntmps19; go_wp2; go_ret; exact ⟨rfl, rfl⟩
  by_cases h6 : code = 166
  · subst h6; go_enter Try.func19, Try.ntmps19; go_wp2; go_ret; exact ⟨rfl, rfl⟩
  by_cases h7 : code = 255
  · subst h7; go_enter Try.func19, Try.ntmps19; go_wp2; go_ret; exact ⟨rfl, rfl⟩
  have e : ixOf code = 8 := by unfold ixOf; simp [h0, h1, h2, h3, h4, h5, h6, h7]
  rw [e]
  have f0 : (code == 128) = false := by simpa using h0
  have f1 : (code == 129) = false := by simpa using h1
  have f2 : (code == 133) = false := by simpa using h2
  have f3 : (code == 134) = false := by simpa using h3
  have f4 : (code == 135) = false := by simpa using h4
  have f5 : (code == 136) = false := by simpa using h5
  have f6 : (code == 166) = false := by simpa using h6
  have f7 : (code == 255) = false := by simpa using h7
  clear h0 h1 h2 h3 h4 h5 h6 h7
  go_enter Try.func19, Try.ntmps19
  go_wp2
  go_ret
  exact ⟨rfl, rfl⟩
theorem nm_at : ∀ k : Fin 8, cd8.getD k.val 0 = cd8.getD k.val 0 := by decide
theorem ix_hit : ∀ k : Fin 8, ixOf (cd8.getD k.val 0) = k.val := by decide
theorem ix_no {code : Int} (h : ∀ k, k < 8 → (cd8.getD k 0 == code) = false) : ixOf code = 8 := by
  have g0 := h 0 (by omega)
  have g1 := h 1 (by omega)
  have g2 := h 2 (by omega)
  have g3 := h 3 (by omega)
  have g4 := h 4 (by omega)
  have g5 := h 5 (by omega)
  have g6 := h 6 (by omega)
  have g7 := h 7 (by omega)
  simp [cd8] at g0 g1 g2 g3 g4 g5 g6 g7
  unfold ixOf
  rw [if_neg (by omega), if_neg (by omega), if_neg (by omega), if_neg (by omega), if_neg (by omega), if_neg (by omega), if_neg (by omega), if_neg (by omega)]
set_option maxRecDepth 100000 in
set_option maxHeartbeats 1600000 in
theorem rname_is (code : Int) (w : World) : Calls Try.prog 20 #[.int .u8 code] w fun e w' => e = .returned (.string (nmS (ixOf code))) ∧ Up w w' := by
  obtain ⟨i0, hi, hz0, hz1, hz2⟩ := info_parts info_u8
  go_enter Try.func20, Try.ntmps20
  go_wp2_with (first | (go_at_call 13; refine (rcodes_is _).mono ?_; rintro e w1 ⟨A1, c1, rfl, h1, h2, h3, h4⟩; have H1 := Lib.hid h1; have H4 := Lib.hid h4; have hz4 := h4.size; clear h1 h4) | (at_builtin; refine wpList_app _ rfl (.tmp 7) (.tmp 8) 22 rfl (w.heap.size + 1) 5 i0 _ 1 1 Try.underlying22 hi hz0 hz1 hz2 rfl (by decide) A1 7 c1 (bs codesL) rfl (by have := own_up H1.out ((Up.refl w1).alloc (.cells #[.int .u8 255] 5)); simpa using this) (w1.heap.size + 1) (some ⟨w1.heap.size, 0, none⟩) 1 1 [.int .u8 255] rfl (reads_at w1 w1.heap.size 1 1 _ _ rfl rfl) (by simp [Value.oneCell']) (by simp [maxLen]) (by omega) (by simp at hz4 ⊢; omega) ?_; intro A3 c3 w5 hown5 hg5 hle5 hmx5 hbl5; have HO5 := Lib.hid hown5; have HB5 := Lib.hid hbl5; clear hown5 hg5 hbl5))
  have hu5 := (H4.out.alloc (.cells #[.int .u8 255] 5)).past (by simpa using HB5.out)
  have hnm : ∀ i, i < 8 → w5.cell? ⟨w.heap.size, i, none⟩ = some (.string (nmS i)) := by
    intro i hi
    rw [(hu5.at_ w.heap.size (by simp)).1 i, World.cell?_alloc_new]
    rcases (show i = 0 ∨ i = 1 ∨ i = 2 ∨ i = 3 ∨ i = 4 ∨ i = 5 ∨ i = 6 ∨ i = 7 by omega) with rfl | rfl | rfl | rfl | rfl | rfl | rfl | rfl
    all_goals rfl
  have hzz := hu5.size
  simp at hzz
  have hsl : Sl (w.heap.size + 1) w5 A3 8 c3 cd8 := by
    have e9 : bs cd8 = bs codesL ++ [.int .u8 255] := rfl
    refine Sl.of_own (by rw [e9]; exact HO5.out) hle5 hmx5 (by omega) (by unfold BL; decide)
  obtain ⟨g, off, rfl, hg⟩ := hsl.form (by omega)
  have HSL := Lib.hid hsl
  have HNM := Lib.hid hnm
  have HU := Lib.hid (((Up.refl w).alloc _).trans hu5)
  clear hu5 hnm hsl
  have hwz : w.heap.size < w5.heap.size := by omega
  go_loop [11] (fun q => ∃ i : Nat, i ≤ 8 ∧ q = .int .i64 (i : Int) ∧ ∀ j, j < i → (cd8.getD j 0 == code) = false) (fun q => 8 - (intOf q).toNat)
  case atStart => exact ⟨0, by omega, rfl, fun _ h => by omega⟩
  case round =>
    obtain ⟨i, hi, rfl, hno⟩ := hrel
    have HN := Lib.hid hno
    clear hno
    by_cases hlt : i < 8
    · have x0 := HSL.out.cell (i := i) hlt
      have y0 := HNM.out i hlt
      have hit := Lib.hid (ix_hit ⟨i, hlt⟩)
      obtain ⟨v, hv⟩ : ∃ v, cd8.getD i 0 = v := ⟨_, rfl⟩
      obtain ⟨s, hs⟩ : ∃ s, nmS i = s := ⟨_, rfl⟩
      rw [hv] at x0
      rw [hs] at y0
      have HV := Lib.hid hv
      have HSS := Lib.hid hs
      clear hv hs
      cases h1 : (v == code)
      · have H1 := Lib.hid h1
        go_wp2
        go_round
        case rel =>
          refine ⟨i + 1, by omega, by go_num, fun j hj => ?_⟩
          rcases Nat.lt_or_ge j i with h | h
          · exact HN.out j h
          · obtain rfl : j = i := by omega
            rw [HV.out]; exact H1.out
        case measure => simp [intOf]; omega
      · have hc : nmS (ixOf code) = s := by
          have e1 : v = code := by simpa using h1
          have e2 := hit.out
          simp only at e2
          rw [HV.out, e1] at e2
          rw [e2]; exact HSS.out
        have HC := Lib.hid hc
        clear hc
        go_wp2
        go_ret
        exact ⟨by rw [HC.out]; rfl, HU.out⟩
    · obtain rfl : i = 8 := by omega
      have hc := Lib.hid (ix_no HN.out)
      go_wp2
      go_ret
      rw [hc.out]
      exact ⟨rfl, HU.out⟩
end Go.Proofs.Ytfknakcjhlonoaa
