/-
  What attr's looks, Pairs and Diff and the reference's Pairs and Diff compute. No condition.
-/
import Derived.Test.YtockighgdkebaaaAttr5
import Derived.Deep.CutBlock
import Derived.Deep.DeepCutAuto
namespace Go.Proofs.Ytockighgdkebaaa
open Go.RowKit
set_option linter.unusedVariables false
set_option linter.unusedSimpArgs false

def pick (b : Bool) (p : Int × Int) : List (Int × Int) := if b then [p] else []
def dJ (b1 b2 b3 : Bool) (h c s : Int) : Nat → List (Int × Int)
  | 0 => []
  | 1 => pick b1 (65, h)
  | 2 => pick b1 (65, h) ++ pick b2 (66, c)
  | _ => pick b1 (65, h) ++ pick b2 (66, c) ++ pick b3 (67, s)
def diffL (h1 c1 s1 h2 c2 s2 : Int) : List (Int × Int) := dJ (h1 != h2) (c1 != c2) (s1 != s2) h2 c2 s2 3
def faL (a : Bool) (fa : Int) : List (Int × Int) := pick a (192, sixOf (six05 fa))
def pairsL (a : Bool) (fa hi co se : Int) : List (Int × Int) := faL a fa ++ diffL 0 0 0 hi co se
theorem bne_swap (x y : Int) : (x != y) = (y != x) := by
  rw [Bool.eq_iff_iff]; simp; constructor <;> (intro h e; exact h e.symm)
theorem pick_len (b : Bool) (p : Int × Int) : (pick b p).length ≤ 1 := by cases b <;> simp [pick]
theorem dJ_len (b1 b2 b3 : Bool) (h c s : Int) (j : Nat) : (dJ b1 b2 b3 h c s j).length ≤ 3 := by
  have h1 := pick_len b1 (65, h)
  have h2 := pick_len b2 (66, c)
  have h3 := pick_len b3 (67, s)
  unfold dJ
  split <;> simp <;> omega
theorem diffL_len (h1 c1 s1 h2 c2 s2 : Int) : (diffL h1 c1 s1 h2 c2 s2).length ≤ 3 := dJ_len _ _ _ _ _ _ _
theorem pairsL_len (a : Bool) (fa hi co se : Int) : (pairsL a fa hi co se).length ≤ 4 := by
  have h1 := diffL_len 0 0 0 hi co se
  have h2 := pick_len a (192, sixOf (six05 fa))
  simp [pairsL, faL]; omega
def cellV (ch : Int) (a : Bool) (fa hi co se : Int) : Value := .agg #[.int .u8 ch, .bool a, .int .u8 fa, .int .u8 hi, .int .u8 co, .int .u8 se]
def lookV (hi co se : Int) : Value := .agg #[.agg #[.int .u8 65, .int .u8 hi], .agg #[.int .u8 66, .int .u8 co], .agg #[.int .u8 67, .int .u8 se]]

theorem w64_0 : ∀ k : Fin 256, wrap64 (six05 k.val) = six05 k.val := by decide +kernel
theorem w64 (b : Int) (h0 : 0 ≤ b) (h1 : b ≤ 255) : wrap64 (six05 b) = six05 b := by
  obtain ⟨k, rfl⟩ : ∃ k : Fin 256, b = k.val := ⟨⟨b.toNat, by omega⟩, by simp; omega⟩
  exact w64_0 k
set_option maxHeartbeats 800000 in
theorem looks_is (ch fa hi co se : Int) (a : Bool) (w : World) :
    Calls Try.prog 39 #[.agg #[.int .u8 ch, .bool a, .int .u8 fa, .int .u8 hi, .int .u8 co, .int .u8 se]] w fun e w' => e = .returned (.agg #[.int .u8 65, .int .u8 hi, .int .u8 66, .int .u8 co, .int .u8 67, .int .u8 se]) ∧ Up w w' := by
  go_enter Try.func39, Try.ntmps39
  go_wp2
  refine bodyPost_ret (v := .agg #[.int .u8 65, .int .u8 hi, .int .u8 66, .int .u8 co, .int .u8 67, .int .u8 se]) (by simp [results, Try.results39, go_sem]) rfl ⟨rfl, by (repeat (first | with_reducible exact Up.refl _ | with_reducible refine Up.alloc ?_ _ | with_reducible refine Up.drew ?_ | with_reducible refine Up.drewN ?_ _ | with_reducible refine Up.setCell ?_ (by (try simp) <;> omega) _ | with_reducible assumption | with_reducible refine Up.trans ?_ (by assumption)))⟩

theorem idx0 (hi co se : Int) (w : World) : (Instr.index 74 (.agg #[.int .u8 65, .int .u8 hi, .int .u8 66, .int .u8 co, .int .u8 67, .int .u8 se]) (.int .i64 0)).run Try.prog w = .ok (.agg #[.int .u8 65, .int .u8 hi]) w := by kernel_rfl
theorem idx1 (hi co se : Int) (w : World) : (Instr.index 74 (.agg #[.int .u8 65, .int .u8 hi, .int .u8 66, .int .u8 co, .int .u8 67, .int .u8 se]) (.int .i64 1)).run Try.prog w = .ok (.agg #[.int .u8 66, .int .u8 co]) w := by kernel_rfl
theorem idx2 (hi co se : Int) (w : World) : (Instr.index 74 (.agg #[.int .u8 65, .int .u8 hi, .int .u8 66, .int .u8 co, .int .u8 67, .int .u8 se]) (.int .i64 2)).run Try.prog w = .ok (.agg #[.int .u8 67, .int .u8 se]) w := by kernel_rfl

set_option maxHeartbeats 3200000 in
theorem pairs_is (ch fa hi co se : Int) (a : Bool) (w : World) (hf0 : 0 ≤ fa) (hf1 : fa ≤ 255) :
    Calls Try.prog 31 #[.agg #[.int .u8 ch, .bool a, .int .u8 fa, .int .u8 hi, .int .u8 co, .int .u8 se]] w fun e w' => ∃ A c, e = .returned (.slice A (pairsL a fa hi co se).length c) ∧ w'.ownsRow w.heap.size 40 2 (.slice A (pairsL a fa hi co se).length c) (pairsL a fa hi co se).length (ps (pairsL a fa hi co se)) ∧ (pairsL a fa hi co se).length ≤ c ∧ c ≤ maxLen ∧ Up w w' := by
  obtain ⟨i0, hi0, hz0, hz1, hz2⟩ := info_parts info_ap
  have h61 := Lib.hid (and61 fa hf0 hf1)
  obtain ⟨R, hR⟩ : ∃ R, pairsL a fa hi co se = R := ⟨_, rfl⟩
  rw [hR]
  have HR := Lib.hid (show R = faL a fa ++ dJ (hi != 0) (co != 0) (se != 0) hi co se 3 by rw [← hR]; simp only [pairsL, diffL, bne_swap])
  clear hR
  go_enter Try.func31, Try.ntmps31
  go_upto_if 7 with (fail)
  go_cut [3] from 8 to 17 (fun v wx => ∃ A c, v = .slice A (faL a fa).length c ∧ Up (w.alloc (.cells #[.int .u8 ch, .bool a, .int .u8 fa, .int .u8 hi, .int .u8 co, .int .u8 se] 38)) wx ∧ wx.ownsRow (w.heap.size + 1) 40 2 (.slice A (faL a fa).length c) (faL a fa).length (ps (faL a fa)))
  case first =>
    rcases Bool.eq_false_or_eq_true a with ha | ha
    · subst ha
      go_wp2_with fail
      refine (six_any _ _).mono ?_
      rintro e w' ⟨rfl, rfl⟩
      rw [h61.out]
      go_wp2_with (at_builtin; refine wpList_app _ rfl (.tmp 8) (.tmp 15) 50 rfl (w.heap.size + 1) 40 i0 _ 2 2 Try.underlying50 hi0 hz0 hz1 hz2 rfl (by decide) none 0 0 _ rfl (World.ownsRow_nil _ _ _ _) _ _ 1 1 _ rfl (reads_at _ _ 2 1 _ _ rfl (by simp)) (by simp [Value.oneCell']) (by (simp [maxLen]) <;> omega) (by omega) (by (try simp) <;> omega) ?_; intro A2 c2 w4 hown4 hg4 hle4 hmx4 hbl4)
      go_meet
      rw [w64 fa hf0 hf1] at hown4
      exact ⟨A2, c2, rfl, Up.past (by (repeat (first | with_reducible exact Up.refl _ | with_reducible refine Up.alloc ?_ _ | with_reducible refine Up.drew ?_ | with_reducible refine Up.drewN ?_ _ | with_reducible refine Up.setCell ?_ (by (try simp) <;> omega) _ | with_reducible assumption | with_reducible refine Up.trans ?_ (by assumption)))) (Below.mono hbl4 (by simp)), hown4⟩
    · subst ha
      go_wp2
      go_meet
      exact ⟨none, 0, rfl, by (repeat (first | with_reducible exact Up.refl _ | with_reducible refine Up.alloc ?_ _ | with_reducible refine Up.drew ?_ | with_reducible refine Up.drewN ?_ _ | with_reducible refine Up.setCell ?_ (by (try simp) <;> omega) _ | with_reducible assumption | with_reducible refine Up.trans ?_ (by assumption))), World.ownsRow_nil _ _ _ _⟩
  case rest =>
    obtain ⟨A0, c0, rfl, hU, hO⟩ := hcut
    have HU := Lib.hid hU
    have hs := hU.size
    simp at hs
    have bcl := (hU.at_ w.heap.size (by simp)).1
    have L0b := pick_len a (192, sixOf (six05 fa))
    change (faL a fa).length ≤ 1 at L0b
    generalize faL a fa = L0 at *
    clear hU
    go_wp2_with fail
    refine (looks_is ch fa hi co se a _).mono ?_
    rintro e w2 ⟨rfl, u2⟩
    have hO2 := Lib.hid (own_up hO u2)
    have U2 := HU.out.trans u2
    have hs2 := U2.size
    simp at hs2
    clear hO u2 bcl
    go_wp2
    go_loopw [3, 19] (fun v i wr => ∃ (j : Nat) (A1 : Option Addr) (c1 : Nat), j ≤ 3 ∧ i = .int .i64 (j : Int) ∧ v = .slice A1 (L0 ++ dJ (hi != 0) (co != 0) (se != 0) hi co se j).length c1 ∧ wr.ownsRow (w.heap.size + 1) 40 2 (.slice A1 (L0 ++ dJ (hi != 0) (co != 0) (se != 0) hi co se j).length c1) (L0 ++ dJ (hi != 0) (co != 0) (se != 0) hi co se j).length (ps (L0 ++ dJ (hi != 0) (co != 0) (se != 0) hi co se j)) ∧ Up (w.alloc (.cells #[.int .u8 ch, .bool a, .int .u8 fa, .int .u8 hi, .int .u8 co, .int .u8 se] 38)) wr) (fun _ i _ => 3 - (intOf i).toNat)
    case atStart => exact ⟨0, A0, c0, by omega, rfl, by simp [dJ], by simpa [dJ] using hO2.out, U2⟩
    case round =>
      obtain ⟨j, A1, c1, hj, rfl, rfl, hown, hup⟩ := hrel
      have hsz := hup.size
      simp at hsz
      have hlen : (L0 ++ dJ (hi != 0) (co != 0) (se != 0) hi co se j).length ≤ 4 := by
        have := dJ_len (hi != 0) (co != 0) (se != 0) hi co se j
        simp; omega
      have hj4 : j = 0 ∨ j = 1 ∨ j = 2 ∨ j = 3 := by omega
      clear hj
      rcases hj4 with rfl | rfl | rfl | rfl
      · rcases Bool.eq_false_or_eq_true (hi != 0) with hb | hb
        · have HE := Lib.hid (show L0 ++ dJ (hi != 0) (co != 0) (se != 0) hi co se 1 = (L0 ++ dJ (hi != 0) (co != 0) (se != 0) hi co se 0) ++ [(65, hi)] by simp [dJ, pick, hb, -bne_iff_ne])
          generalize L0 ++ dJ (hi != 0) (co != 0) (se != 0) hi co se 0 = L at *
          have ix := idx0 hi co se
          go_wp2_with (at_builtin; refine wpList_app _ rfl (.tmp 25) (.tmp 27) 50 rfl (w.heap.size + 1) 40 i0 _ 2 2 Try.underlying50 hi0 hz0 hz1 hz2 rfl (by decide) A1 L.length c1 _ rfl (own_up hown (by (repeat (first | with_reducible exact Up.refl _ | with_reducible refine Up.alloc ?_ _ | with_reducible refine Up.drew ?_ | with_reducible refine Up.drewN ?_ _ | with_reducible refine Up.setCell ?_ (by (try simp) <;> omega) _ | with_reducible assumption | with_reducible refine Up.trans ?_ (by assumption))))) _ _ 1 1 _ rfl (reads_at _ _ 2 1 _ _ rfl (by simp)) (by simp [Value.oneCell']) (by (simp [maxLen]) <;> omega) (by omega) (by (try simp) <;> omega) ?_; intro A2 c2 w4 hown4 hg4 hle4 hmx4 hbl4)
          go_roundw
          case rel =>
            refine ⟨1, A2, c2, by omega, by go_num, ?_, ?_, ((hup.alloc _).alloc _).past (Below.mono hbl4 (by simp))⟩
            · rw [HE.out]; simp
            · rw [HE.out, ps_snoc, List.length_append]; exact hown4
          case measure => simp [intOf]
        · have HE := Lib.hid (show L0 ++ dJ (hi != 0) (co != 0) (se != 0) hi co se 1 = (L0 ++ dJ (hi != 0) (co != 0) (se != 0) hi co se 0) by simp [dJ, pick, hb, -bne_iff_ne, -bne_eq_false_iff_eq])
          generalize L0 ++ dJ (hi != 0) (co != 0) (se != 0) hi co se 0 = L at *
          have ix := idx0 hi co se
          go_wp2
          go_roundw
          case rel => exact ⟨1, A1, c1, by omega, by go_num, by rw [HE.out], by rw [HE.out]; exact own_up hown (by (repeat (first | with_reducible exact Up.refl _ | with_reducible refine Up.alloc ?_ _ | with_reducible refine Up.drew ?_ | with_reducible refine Up.drewN ?_ _ | with_reducible refine Up.setCell ?_ (by (try simp) <;> omega) _ | with_reducible assumption | with_reducible refine Up.trans ?_ (by assumption)))), by (repeat (first | with_reducible exact Up.refl _ | with_reducible refine Up.alloc ?_ _ | with_reducible refine Up.drew ?_ | with_reducible refine Up.drewN ?_ _ | with_reducible refine Up.setCell ?_ (by (try simp) <;> omega) _ | with_reducible assumption | with_reducible refine Up.trans ?_ (by assumption)))⟩
          case measure => simp [intOf]
      · rcases Bool.eq_false_or_eq_true (co != 0) with hb | hb
        · have HE := Lib.hid (show L0 ++ dJ (hi != 0) (co != 0) (se != 0) hi co se 2 = (L0 ++ dJ (hi != 0) (co != 0) (se != 0) hi co se 1) ++ [(66, co)] by simp [dJ, pick, hb, -bne_iff_ne])
          generalize L0 ++ dJ (hi != 0) (co != 0) (se != 0) hi co se 1 = L at *
          have ix := idx1 hi co se
          go_wp2_with (at_builtin; refine wpList_app _ rfl (.tmp 25) (.tmp 27) 50 rfl (w.heap.size + 1) 40 i0 _ 2 2 Try.underlying50 hi0 hz0 hz1 hz2 rfl (by decide) A1 L.length c1 _ rfl (own_up hown (by (repeat (first | with_reducible exact Up.refl _ | with_reducible refine Up.alloc ?_ _ | with_reducible refine Up.drew ?_ | with_reducible refine Up.drewN ?_ _ | with_reducible refine Up.setCell ?_ (by (try simp) <;> omega) _ | with_reducible assumption | with_reducible refine Up.trans ?_ (by assumption))))) _ _ 1 1 _ rfl (reads_at _ _ 2 1 _ _ rfl (by simp)) (by simp [Value.oneCell']) (by (simp [maxLen]) <;> omega) (by omega) (by (try simp) <;> omega) ?_; intro A2 c2 w4 hown4 hg4 hle4 hmx4 hbl4)
          go_roundw
          case rel =>
            refine ⟨2, A2, c2, by omega, by go_num, ?_, ?_, ((hup.alloc _).alloc _).past (Below.mono hbl4 (by simp))⟩
            · rw [HE.out]; simp
            · rw [HE.out, ps_snoc, List.length_append]; exact hown4
          case measure => simp [intOf]
        · have HE := Lib.hid (show L0 ++ dJ (hi != 0) (co != 0) (se != 0) hi co se 2 = (L0 ++ dJ (hi != 0) (co != 0) (se != 0) hi co se 1) by simp [dJ, pick, hb, -bne_iff_ne, -bne_eq_false_iff_eq])
          generalize L0 ++ dJ (hi != 0) (co != 0) (se != 0) hi co se 1 = L at *
          have ix := idx1 hi co se
          go_wp2
          go_roundw
          case rel => exact ⟨2, A1, c1, by omega, by go_num, by rw [HE.out], by rw [HE.out]; exact own_up hown (by (repeat (first | with_reducible exact Up.refl _ | with_reducible refine Up.alloc ?_ _ | with_reducible refine Up.drew ?_ | with_reducible refine Up.drewN ?_ _ | with_reducible refine Up.setCell ?_ (by (try simp) <;> omega) _ | with_reducible assumption | with_reducible refine Up.trans ?_ (by assumption)))), by (repeat (first | with_reducible exact Up.refl _ | with_reducible refine Up.alloc ?_ _ | with_reducible refine Up.drew ?_ | with_reducible refine Up.drewN ?_ _ | with_reducible refine Up.setCell ?_ (by (try simp) <;> omega) _ | with_reducible assumption | with_reducible refine Up.trans ?_ (by assumption)))⟩
          case measure => simp [intOf]
      · rcases Bool.eq_false_or_eq_true (se != 0) with hb | hb
        · have HE := Lib.hid (show L0 ++ dJ (hi != 0) (co != 0) (se != 0) hi co se 3 = (L0 ++ dJ (hi != 0) (co != 0) (se != 0) hi co se 2) ++ [(67, se)] by simp [dJ, pick, hb, -bne_iff_ne])
          generalize L0 ++ dJ (hi != 0) (co != 0) (se != 0) hi co se 2 = L at *
          have ix := idx2 hi co se
          go_wp2_with (at_builtin; refine wpList_app _ rfl (.tmp 25) (.tmp 27) 50 rfl (w.heap.size + 1) 40 i0 _ 2 2 Try.underlying50 hi0 hz0 hz1 hz2 rfl (by decide) A1 L.length c1 _ rfl (own_up hown (by (repeat (first | with_reducible exact Up.refl _ | with_reducible refine Up.alloc ?_ _ | with_reducible refine Up.drew ?_ | with_reducible refine Up.drewN ?_ _ | with_reducible refine Up.setCell ?_ (by (try simp) <;> omega) _ | with_reducible assumption | with_reducible refine Up.trans ?_ (by assumption))))) _ _ 1 1 _ rfl (reads_at _ _ 2 1 _ _ rfl (by simp)) (by simp [Value.oneCell']) (by (simp [maxLen]) <;> omega) (by omega) (by (try simp) <;> omega) ?_; intro A2 c2 w4 hown4 hg4 hle4 hmx4 hbl4)
          go_roundw
          case rel =>
            refine ⟨3, A2, c2, by omega, by go_num, ?_, ?_, ((hup.alloc _).alloc _).past (Below.mono hbl4 (by simp))⟩
            · rw [HE.out]; simp
            · rw [HE.out, ps_snoc, List.length_append]; exact hown4
          case measure => simp [intOf]
        · have HE := Lib.hid (show L0 ++ dJ (hi != 0) (co != 0) (se != 0) hi co se 3 = (L0 ++ dJ (hi != 0) (co != 0) (se != 0) hi co se 2) by simp [dJ, pick, hb, -bne_iff_ne, -bne_eq_false_iff_eq])
          generalize L0 ++ dJ (hi != 0) (co != 0) (se != 0) hi co se 2 = L at *
          have ix := idx2 hi co se
          go_wp2
          go_roundw
          case rel => exact ⟨3, A1, c1, by omega, by go_num, by rw [HE.out], by rw [HE.out]; exact own_up hown (by (repeat (first | with_reducible exact Up.refl _ | with_reducible refine Up.alloc ?_ _ | with_reducible refine Up.drew ?_ | with_reducible refine Up.drewN ?_ _ | with_reducible refine Up.setCell ?_ (by (try simp) <;> omega) _ | with_reducible assumption | with_reducible refine Up.trans ?_ (by assumption)))), by (repeat (first | with_reducible exact Up.refl _ | with_reducible refine Up.alloc ?_ _ | with_reducible refine Up.drew ?_ | with_reducible refine Up.drewN ?_ _ | with_reducible refine Up.setCell ?_ (by (try simp) <;> omega) _ | with_reducible assumption | with_reducible refine Up.trans ?_ (by assumption)))⟩
          case measure => simp [intOf]
      · generalize L0 ++ dJ (hi != 0) (co != 0) (se != 0) hi co se 3 = L at *
        go_wp2
        go_ret
        obtain ⟨_, c', e1, hle, hmx⟩ := own_form hown
        injection e1 with _ _ e1
        subst e1
        have hR := HR.out
        subst hR
        exact ⟨A1, c1, rfl, own_base hown (by omega), hle, hmx, (Up.alloc (Up.refl w) _).trans hup⟩
end Go.Proofs.Ytockighgdkebaaa
