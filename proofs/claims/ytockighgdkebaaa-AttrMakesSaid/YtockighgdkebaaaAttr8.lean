/-
  What the reference's Diff and Pairs compute. No condition.
-/
import Derived.Test.YtockighgdkebaaaAttr7
namespace Go.Proofs.Ytockighgdkebaaa
open Go.RowKit
set_option linter.unusedVariables false
set_option linter.unusedSimpArgs false

set_option maxHeartbeats 3200000 in
theorem ref_diff (ch1 fa1 h1 c1 s1 ch2 fa2 h2 c2 s2 : Int) (a1 a2 : Bool) (w : World) :
    Calls Try.prog 34 #[.agg #[.int .u8 ch1, .bool a1, .int .u8 fa1, .int .u8 h1, .int .u8 c1, .int .u8 s1], .agg #[.int .u8 ch2, .bool a2, .int .u8 fa2, .int .u8 h2, .int .u8 c2, .int .u8 s2]] w fun e w' => ∃ A c, e = .returned (.slice A (diffL h1 c1 s1 h2 c2 s2).length c) ∧ w'.ownsRow w.heap.size 36 2 (.slice A (diffL h1 c1 s1 h2 c2 s2).length c) (diffL h1 c1 s1 h2 c2 s2).length (ps (diffL h1 c1 s1 h2 c2 s2)) ∧ (diffL h1 c1 s1 h2 c2 s2).length ≤ c ∧ c ≤ maxLen ∧ Up w w' := by
  obtain ⟨i0, hi0, hz0, hz1, hz2⟩ := info_parts info_rp
  obtain ⟨R, hR⟩ : ∃ R, diffL h1 c1 s1 h2 c2 s2 = R := ⟨_, rfl⟩
  rw [hR]
  have HR := Lib.hid (show R = dJ (h1 != h2) (c1 != c2) (s1 != s2) h2 c2 s2 3 from hR.symm)
  clear hR
  go_enter Try.func34, Try.ntmps34
  go_upto_if 10 with (fail)
  go_cut [5] from 10 to 17 (fun v wx => ∃ A c, v = .slice A (dJ (h1 != h2) (c1 != c2) (s1 != s2) h2 c2 s2 1).length c ∧ Up ((w.alloc (.cells #[.int .u8 ch1, .bool a1, .int .u8 fa1, .int .u8 h1, .int .u8 c1, .int .u8 s1] 38)).alloc (.cells #[.int .u8 ch2, .bool a2, .int .u8 fa2, .int .u8 h2, .int .u8 c2, .int .u8 s2] 38)) wx ∧ wx.ownsRow (w.heap.size + 2) 36 2 (.slice A (dJ (h1 != h2) (c1 != c2) (s1 != s2) h2 c2 s2 1).length c) (dJ (h1 != h2) (c1 != c2) (s1 != s2) h2 c2 s2 1).length (ps (dJ (h1 != h2) (c1 != c2) (s1 != s2) h2 c2 s2 1)))
  case first =>
    have hlen := dJ_len (h1 != h2) (c1 != c2) (s1 != s2) h2 c2 s2 0
    rcases Bool.eq_false_or_eq_true (h1 != h2) with hb | hb
    · have HE := Lib.hid (show dJ (h1 != h2) (c1 != c2) (s1 != s2) h2 c2 s2 1 = dJ (h1 != h2) (c1 != c2) (s1 != s2) h2 c2 s2 0 ++ [(65, h2)] by simp [dJ, pick, hb, -bne_iff_ne])
      go_wp2_with (at_builtin; refine wpList_app _ rfl (.tmp 11) (.tmp 15) 53 rfl (w.heap.size + 2) 36 i0 _ 2 2 Try.underlying53 hi0 hz0 hz1 hz2 rfl (by decide) none 0 0 _ rfl (World.ownsRow_nil _ _ _ _) _ _ 1 1 _ rfl (reads_at _ _ 2 1 _ _ rfl (by simp)) (by simp [Value.oneCell']) (by (simp [maxLen]) <;> omega) (by omega) (by (try simp) <;> omega) ?_; intro A2 c2' w4 hown4 hg4 hle4 hmx4 hbl4)
      go_meet
      exact ⟨A2, c2', by rw [HE.out]; rfl, Up.past (by (repeat (first | with_reducible exact Up.refl _ | with_reducible refine Up.alloc ?_ _ | with_reducible refine Up.drew ?_ | with_reducible refine Up.drewN ?_ _ | with_reducible refine Up.setCell ?_ (by (try simp) <;> omega) _ | with_reducible assumption | with_reducible refine Up.trans ?_ (by assumption)))) (Below.mono hbl4 (by simp)), by rw [HE.out]; exact hown4⟩
    · have HE := Lib.hid (show dJ (h1 != h2) (c1 != c2) (s1 != s2) h2 c2 s2 1 = dJ (h1 != h2) (c1 != c2) (s1 != s2) h2 c2 s2 0 by simp [dJ, pick, hb, -bne_iff_ne, -bne_eq_false_iff_eq])
      go_wp2
      go_meet
      exact ⟨none, 0, by rw [HE.out]; rfl, by (repeat (first | with_reducible exact Up.refl _ | with_reducible refine Up.alloc ?_ _ | with_reducible refine Up.drew ?_ | with_reducible refine Up.drewN ?_ _ | with_reducible refine Up.setCell ?_ (by (try simp) <;> omega) _ | with_reducible assumption | with_reducible refine Up.trans ?_ (by assumption))), by rw [HE.out]; exact World.ownsRow_nil _ _ _ _⟩
  case rest =>
    obtain ⟨A0, c0, rfl, hU, hO⟩ := hcut
    have hs := hU.size
    simp at hs
    have bcl1 := (hU.at_ w.heap.size (by simp; omega)).1
    have bcl2 := (hU.at_ (w.heap.size + 1) (by simp)).1
    go_upto_if 21 with (fail)
    go_cut [5] from 21 to 28 (fun v wx => ∃ A c, v = .slice A (dJ (h1 != h2) (c1 != c2) (s1 != s2) h2 c2 s2 2).length c ∧ Up ((w.alloc (.cells #[.int .u8 ch1, .bool a1, .int .u8 fa1, .int .u8 h1, .int .u8 c1, .int .u8 s1] 38)).alloc (.cells #[.int .u8 ch2, .bool a2, .int .u8 fa2, .int .u8 h2, .int .u8 c2, .int .u8 s2] 38)) wx ∧ wx.ownsRow (w.heap.size + 2) 36 2 (.slice A (dJ (h1 != h2) (c1 != c2) (s1 != s2) h2 c2 s2 2).length c) (dJ (h1 != h2) (c1 != c2) (s1 != s2) h2 c2 s2 2).length (ps (dJ (h1 != h2) (c1 != c2) (s1 != s2) h2 c2 s2 2)))
    case first =>
      have hlen := dJ_len (h1 != h2) (c1 != c2) (s1 != s2) h2 c2 s2 1
      rcases Bool.eq_false_or_eq_true (c1 != c2) with hb | hb
      · have HE := Lib.hid (show dJ (h1 != h2) (c1 != c2) (s1 != s2) h2 c2 s2 2 = dJ (h1 != h2) (c1 != c2) (s1 != s2) h2 c2 s2 1 ++ [(66, c2)] by simp [dJ, pick, hb, -bne_iff_ne])
        generalize dJ (h1 != h2) (c1 != c2) (s1 != s2) h2 c2 s2 1 = L at *
        go_wp2_with (at_builtin; refine wpList_app _ rfl (.tmp 22) (.tmp 26) 53 rfl (w.heap.size + 2) 36 i0 _ 2 2 Try.underlying53 hi0 hz0 hz1 hz2 rfl (by decide) A0 L.length c0 _ rfl (own_up hO (by (repeat (first | with_reducible exact Up.refl _ | with_reducible refine Up.alloc ?_ _ | with_reducible refine Up.drew ?_ | with_reducible refine Up.drewN ?_ _ | with_reducible refine Up.setCell ?_ (by (try simp) <;> omega) _ | with_reducible assumption | with_reducible refine Up.trans ?_ (by assumption))))) _ _ 1 1 _ rfl (reads_at _ _ 2 1 _ _ rfl (by simp)) (by simp [Value.oneCell']) (by (simp [maxLen]) <;> omega) (by omega) (by (try simp) <;> omega) ?_; intro A2 c2' w4 hown4 hg4 hle4 hmx4 hbl4)
        go_meet
        refine ⟨A2, c2', ?_, Up.past (by (repeat (first | with_reducible exact Up.refl _ | with_reducible refine Up.alloc ?_ _ | with_reducible refine Up.drew ?_ | with_reducible refine Up.drewN ?_ _ | with_reducible refine Up.setCell ?_ (by (try simp) <;> omega) _ | with_reducible assumption | with_reducible refine Up.trans ?_ (by assumption)))) (Below.mono hbl4 (by (try simp) <;> omega)), ?_⟩
        · rw [HE.out]; simp
        · rw [HE.out, ps_snoc, List.length_append]; exact hown4
      · have HE := Lib.hid (show dJ (h1 != h2) (c1 != c2) (s1 != s2) h2 c2 s2 2 = dJ (h1 != h2) (c1 != c2) (s1 != s2) h2 c2 s2 1 by simp [dJ, pick, hb, -bne_iff_ne, -bne_eq_false_iff_eq])
        generalize dJ (h1 != h2) (c1 != c2) (s1 != s2) h2 c2 s2 1 = L at *
        go_wp2
        go_meet
        exact ⟨A0, c0, by rw [HE.out], by (repeat (first | with_reducible exact Up.refl _ | with_reducible refine Up.alloc ?_ _ | with_reducible refine Up.drew ?_ | with_reducible refine Up.drewN ?_ _ | with_reducible refine Up.setCell ?_ (by (try simp) <;> omega) _ | with_reducible assumption | with_reducible refine Up.trans ?_ (by assumption))), by rw [HE.out]; exact hO⟩
    case rest =>
      obtain ⟨A0, c0, rfl, hU, hO⟩ := hcut
      have hs := hU.size
      simp at hs
      have bcl1 := (hU.at_ w.heap.size (by simp; omega)).1
      have bcl2 := (hU.at_ (w.heap.size + 1) (by simp)).1
      go_upto_if 32 with (fail)
      go_cut [5] from 32 to 39 (fun v wx => ∃ A c, v = .slice A (dJ (h1 != h2) (c1 != c2) (s1 != s2) h2 c2 s2 3).length c ∧ Up ((w.alloc (.cells #[.int .u8 ch1, .bool a1, .int .u8 fa1, .int .u8 h1, .int .u8 c1, .int .u8 s1] 38)).alloc (.cells #[.int .u8 ch2, .bool a2, .int .u8 fa2, .int .u8 h2, .int .u8 c2, .int .u8 s2] 38)) wx ∧ wx.ownsRow (w.heap.size + 2) 36 2 (.slice A (dJ (h1 != h2) (c1 != c2) (s1 != s2) h2 c2 s2 3).length c) (dJ (h1 != h2) (c1 != c2) (s1 != s2) h2 c2 s2 3).length (ps (dJ (h1 != h2) (c1 != c2) (s1 != s2) h2 c2 s2 3)))
      case first =>
        have hlen := dJ_len (h1 != h2) (c1 != c2) (s1 != s2) h2 c2 s2 2
        rcases Bool.eq_false_or_eq_true (s1 != s2) with hb | hb
        · have HE := Lib.hid (show dJ (h1 != h2) (c1 != c2) (s1 != s2) h2 c2 s2 3 = dJ (h1 != h2) (c1 != c2) (s1 != s2) h2 c2 s2 2 ++ [(67, s2)] by simp [dJ, pick, hb, -bne_iff_ne])
          generalize dJ (h1 != h2) (c1 != c2) (s1 != s2) h2 c2 s2 2 = L at *
          go_wp2_with (at_builtin; refine wpList_app _ rfl (.tmp 33) (.tmp 37) 53 rfl (w.heap.size + 2) 36 i0 _ 2 2 Try.underlying53 hi0 hz0 hz1 hz2 rfl (by decide) A0 L.length c0 _ rfl (own_up hO (by (repeat (first | with_reducible exact Up.refl _ | with_reducible refine Up.alloc ?_ _ | with_reducible refine Up.drew ?_ | with_reducible refine Up.drewN ?_ _ | with_reducible refine Up.setCell ?_ (by (try simp) <;> omega) _ | with_reducible assumption | with_reducible refine Up.trans ?_ (by assumption))))) _ _ 1 1 _ rfl (reads_at _ _ 2 1 _ _ rfl (by simp)) (by simp [Value.oneCell']) (by (simp [maxLen]) <;> omega) (by omega) (by (try simp) <;> omega) ?_; intro A2 c2' w4 hown4 hg4 hle4 hmx4 hbl4)
          go_meet
          refine ⟨A2, c2', ?_, Up.past (by (repeat (first | with_reducible exact Up.refl _ | with_reducible refine Up.alloc ?_ _ | with_reducible refine Up.drew ?_ | with_reducible refine Up.drewN ?_ _ | with_reducible refine Up.setCell ?_ (by (try simp) <;> omega) _ | with_reducible assumption | with_reducible refine Up.trans ?_ (by assumption)))) (Below.mono hbl4 (by (try simp) <;> omega)), ?_⟩
          · rw [HE.out]; simp
          · rw [HE.out, ps_snoc, List.length_append]; exact hown4
        · have HE := Lib.hid (show dJ (h1 != h2) (c1 != c2) (s1 != s2) h2 c2 s2 3 = dJ (h1 != h2) (c1 != c2) (s1 != s2) h2 c2 s2 2 by simp [dJ, pick, hb, -bne_iff_ne, -bne_eq_false_iff_eq])
          generalize dJ (h1 != h2) (c1 != c2) (s1 != s2) h2 c2 s2 2 = L at *
          go_wp2
          go_meet
          exact ⟨A0, c0, by rw [HE.out], by (repeat (first | with_reducible exact Up.refl _ | with_reducible refine Up.alloc ?_ _ | with_reducible refine Up.drew ?_ | with_reducible refine Up.drewN ?_ _ | with_reducible refine Up.setCell ?_ (by (try simp) <;> omega) _ | with_reducible assumption | with_reducible refine Up.trans ?_ (by assumption))), by rw [HE.out]; exact hO⟩
      case rest =>
        obtain ⟨A0, c0, rfl, hU, hO⟩ := hcut
        have hs := hU.size
        simp at hs
        have bcl1 := (hU.at_ w.heap.size (by simp; omega)).1
        have bcl2 := (hU.at_ (w.heap.size + 1) (by simp)).1
        generalize dJ (h1 != h2) (c1 != c2) (s1 != s2) h2 c2 s2 3 = L at *
        go_wp2
        go_ret
        obtain ⟨_, c', e1, hle, hmx⟩ := own_form hO
        injection e1 with _ _ e1
        subst e1
        have hR := HR.out
        subst hR
        exact ⟨A0, c0, rfl, own_base hO (by omega), hle, hmx, (Up.alloc (Up.alloc (Up.refl w) _) _).trans hU⟩

theorem ps_app (L L' : List (Int × Int)) : ps (L ++ L') = ps L ++ ps L' := by simp [ps, List.flatMap_append]
set_option maxHeartbeats 3200000 in
theorem ref_pairs (ch fa hi co se : Int) (a : Bool) (w : World) (hf0 : 0 ≤ fa) (hf1 : fa ≤ 255) :
    Calls Try.prog 32 #[.agg #[.int .u8 ch, .bool a, .int .u8 fa, .int .u8 hi, .int .u8 co, .int .u8 se]] w fun e w' => ∃ A c, e = .returned (.slice A (pairsL a fa hi co se).length c) ∧ w'.ownsRow w.heap.size 36 2 (.slice A (pairsL a fa hi co se).length c) (pairsL a fa hi co se).length (ps (pairsL a fa hi co se)) ∧ (pairsL a fa hi co se).length ≤ c ∧ c ≤ maxLen ∧ Up w w' := by
  obtain ⟨i0, hi0, hz0, hz1, hz2⟩ := info_parts info_rp
  obtain ⟨R, hR⟩ : ∃ R, pairsL a fa hi co se = R := ⟨_, rfl⟩
  rw [hR]
  have HR := Lib.hid (show R = faL a fa ++ diffL 0 0 0 hi co se from hR.symm)
  clear hR
  go_enter Try.func32, Try.ntmps32
  go_upto_if 5 with (fail)
  go_cut [3] from 6 to 15 (fun v wx => ∃ A c, v = .slice A (faL a fa).length c ∧ Up (w.alloc (.cells #[.int .u8 ch, .bool a, .int .u8 fa, .int .u8 hi, .int .u8 co, .int .u8 se] 38)) wx ∧ wx.ownsRow (w.heap.size + 1) 36 2 (.slice A (faL a fa).length c) (faL a fa).length (ps (faL a fa)))
  case first =>
    rcases Bool.eq_false_or_eq_true a with ha | ha
    · subst ha
      go_wp2_with fail
      refine (ref_six05_any _ _ hf0 hf1).mono ?_
      rintro e w1 ⟨rfl, u1⟩
      have hs1 := u1.size
      simp at hs1
      go_wp2_with fail
      refine (ref_six_any _ _).mono ?_
      rintro e w' ⟨rfl, rfl⟩
      go_wp2_with (at_builtin; refine wpList_app _ rfl (.tmp 6) (.tmp 13) 53 rfl (w.heap.size + 1) 36 i0 _ 2 2 Try.underlying53 hi0 hz0 hz1 hz2 rfl (by decide) none 0 0 _ rfl (World.ownsRow_nil _ _ _ _) _ _ 1 1 _ rfl (reads_at _ _ 2 1 _ _ rfl (by simp)) (by simp [Value.oneCell']) (by (simp [maxLen]) <;> omega) (by omega) (by (try simp) <;> omega) ?_; intro A2 c2 w4 hown4 hg4 hle4 hmx4 hbl4)
      go_meet
      (try rw [w64 fa hf0 hf1] at hown4)
      exact ⟨A2, c2, rfl, Up.past (by (repeat (first | with_reducible exact Up.refl _ | with_reducible refine Up.alloc ?_ _ | with_reducible refine Up.drew ?_ | with_reducible refine Up.drewN ?_ _ | with_reducible refine Up.setCell ?_ (by (try simp) <;> omega) _ | with_reducible assumption | with_reducible refine Up.trans ?_ (by assumption)))) (Below.mono hbl4 (by simp)), hown4⟩
    · subst ha
      go_wp2
      go_meet
      exact ⟨none, 0, rfl, by (repeat (first | with_reducible exact Up.refl _ | with_reducible refine Up.alloc ?_ _ | with_reducible refine Up.drew ?_ | with_reducible refine Up.drewN ?_ _ | with_reducible refine Up.setCell ?_ (by (try simp) <;> omega) _ | with_reducible assumption | with_reducible refine Up.trans ?_ (by assumption))), World.ownsRow_nil _ _ _ _⟩
  case rest =>
    obtain ⟨A0, c0, rfl, hU, hO⟩ := hcut
    have HU := Lib.hid hU
    have hs := hU.size
    simp at hs
    have bcl := (hU.at_ w.heap.size (by simp)).1
    have L0b := pick_len a (192, sixOf (six05 fa))
    change (faL a fa).length ≤ 1 at L0b
    generalize faL a fa = L0 at *
    clear hU
    go_wp2_with fail
    refine (ref_diff 0 0 0 0 0 ch fa hi co se false a _).mono ?_
    rintro e w2 ⟨A2, c2, rfl, hO2, hle2, hmx2, u2⟩
    have hR2 := Reads.of_own hO2
    have hlen2 := diffL_len 0 0 0 hi co se
    generalize diffL 0 0 0 hi co se = D at *
    have hOw := Lib.hid (own_up hO u2)
    have U2 := HU.out.trans u2
    have hs2 := U2.size
    simp at hs2
    clear hO hO2 bcl
    have hmm : L0.length + D.length ≤ maxLen := by simp [maxLen]; omega
    go_wp2_with (at_builtin; refine wpList_app _ rfl (.tmp 15) (.tmp 18) 53 rfl (w.heap.size + 1) 36 i0 _ 2 2 Try.underlying53 hi0 hz0 hz1 hz2 rfl (by decide) A0 L0.length c0 _ rfl hOw.out _ A2 D.length c2 _ rfl hR2 (ps_one _) hmm (by omega) (by omega) ?_; intro A3 c3 w4 hown4 hg4 hle4 hmx4 hbl4)
    go_ret
    have hR := HR.out
    subst hR
    rw [List.length_append, ps_app]
    exact ⟨A3, c3, rfl, own_base hown4 (by omega), hle4, hmx4, Up.past ((Up.alloc (Up.refl w) _).trans U2) (Below.mono hbl4 (by omega))⟩
end Go.Proofs.Ytockighgdkebaaa
