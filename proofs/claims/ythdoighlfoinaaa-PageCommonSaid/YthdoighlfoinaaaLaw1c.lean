/-
  The walk of PageCommon. No condition.
-/
import Derived.Test.YthdoighlfoinaaaLaw1b
namespace Go.Proofs.Ythdoighlfoinaaa
open Go.RowKit Go.Maps
set_option linter.unusedVariables false
set_option linter.unusedSimpArgs false

def commonS (s : Int) : Bool := s == 32 || (decide (48 ≤ s) && decide (s ≤ 57)) || (decide (65 ≤ s) && decide (s ≤ 90)) || (decide (97 ≤ s) && decide (s ≤ 122))
def commonB (k : Int) : Bool := (List.range 91).all fun j => !(commonS (32 + (j : Int))) || (codeN k (32 + (j : Int)) == codeN 37 (32 + (j : Int)) && (codeN 37 (32 + (j : Int))).isSome)
theorem common_all : commonB 37 = true ∧ commonB 273 = true ∧ commonB 297 = true ∧ commonB 500 = true ∧ commonB 1047 = true ∧ commonB 1140 = true := by decide +kernel
theorem common_page {k : Int} (hk : isPage k = true) {j : Nat} (hj : j < 91) (hs : commonS (32 + (j : Int)) = true) : codeV k (32 + (j : Int)) = codeV 37 (32 + (j : Int)) ∧ (codeN k (32 + (j : Int))).isSome = true := by
  have h : commonB k = true := by
    obtain ⟨h1, h2, h3, h4, h5, h6⟩ := common_all
    rcases page_cases hk with rfl | rfl | rfl | rfl | rfl | rfl
    · exact h1
    · exact h2
    · exact h3
    · exact h4
    · exact h5
    · exact h6
  have := List.all_eq_true.1 h j (List.mem_range.2 hj)
  rw [hs] at this
  simp only [Bool.not_true, Bool.false_or, Bool.and_eq_true, beq_iff_eq] at this
  unfold codeV
  rw [this.1]
  exact ⟨rfl, this.2⟩
set_option maxRecDepth 100000 in
set_option maxHeartbeats 3200000 in
theorem law_common (n m : Int) (w : World) (hn0 : 0 ≤ n) (hn1 : n ≤ 255) (hm0 : 0 ≤ m) (hm1 : m ≤ 255) :
    Calls Try.prog 4 #[.int .u8 n, .int .u8 m] w fun e w' => e = .returned (.bool true) ∧ Up w w' := by
  have hnot : ∀ (x : Bool) (w : World), (Op.unary .not (.bool x)).run Try.prog w = .ok (.bool (!x)) w := fun _ _ => rfl
  go_enter Try.func4, Try.ntmps4
  go_wp2_with (go_at_call 13; refine (awake01 _).mono ?_; rintro e w1 ⟨rfl, hu1⟩)
  go_wp2_with (go_at_call 14; with_reducible refine (pick_is n ⟨hn0, hn1⟩ _).mono ?_; rintro e w2 ⟨b1, k1, rfl, hk1, hb1, hp1, hu2⟩)
  go_wp2_with (go_at_call 14; with_reducible refine (pick_is m ⟨hm0, hm1⟩ _).mono ?_; rintro e w3 ⟨b2, k2, rfl, hk2, hb2, hp2, hu3⟩)
  have hne : b1 ≠ b2 := by have := hp1.lt; omega
  have hz1 : w.heap.size ≤ b1 := by have := hu1.size; omega
  have hz2 : w.heap.size ≤ b2 := by have := hu1.size; have := hu2.size; omega
  have hp1' := hp1.up hu3
  have HU := Lib.hid ((hu1.trans hu2).trans hu3)
  clear hu1 hu2 hu3 hp1 hb1 hb2
  go_loopw [9] (fun q wr => ∃ j : Nat, j ≤ 91 ∧ q = .int .i32 (32 + (j : Int)) ∧ PAt wr b1 k1 ∧ PAt wr b2 k2 ∧ Keep (fun i => i = b1 ∨ i = b2) w3 wr) (fun q _ => 123 - (intOf q).toNat)
  case atStart => exact ⟨0, by omega, rfl, hp1', hp2, Keep.refl _ w3⟩
  case round =>
    obtain ⟨j, hj, rfl, hq1, hq2, hn⟩ := hrel
    have HN := Lib.hid hn
    clear hn
    by_cases hlt : j < 91
    · have hcm : Hid (commonS (32 + (j : Int)) = true → codeV k1 (32 + (j : Int)) = codeV 37 (32 + (j : Int)) ∧ (codeN k1 (32 + (j : Int))).isSome = true ∧ codeV k2 (32 + (j : Int)) = codeV 37 (32 + (j : Int)) ∧ (codeN k2 (32 + (j : Int))).isSome = true) := Lib.hid fun h => ⟨(common_page hk1 hlt h).1, (common_page hk1 hlt h).2, (common_page hk2 hlt h).1, (common_page hk2 hlt h).2⟩
      have c1 := code_at b1 k1 hk1 (32 + (j : Int)) (wf_i32 (by omega))
      have c2 := code_at b2 k2 hk2 (32 + (j : Int)) (wf_i32 (by omega))
      have H1 := Lib.hid hq1
      have H2 := Lib.hid hq2
      clear hq1 hq2
      generalize hs : (32 + (j : Int)) = s at *
      have hs1 : s = 32 + (j : Int) := hs.symm
      clear hs
      have hsb : 32 ≤ s ∧ s ≤ 122 := by omega
      have HS := Lib.hid hs1
      clear hs1
      by_cases hcs : commonS s = true
      · obtain ⟨q1, q2, q3, q4⟩ := hcm.out hcs
        rw [q1, q2] at c1
        rw [q3, q4] at c2
        clear q1 q2 q3 q4 hcm
        generalize codeV 37 s = v at *
        unfold commonS at hcs
        cases e0 : (s == 32) <;> cases e1 : decide (48 ≤ s) <;> cases e2 : decide (s ≤ 57) <;> cases e3 : decide (65 ≤ s) <;> cases e4 : decide (s ≤ 90) <;> cases e5 : decide (97 ≤ s) <;> cases e6 : decide (s ≤ 122)
        all_goals
          have h0 := e0
          have h1 := e1
          have h2 := e2
          have h3 := e3
          have h4 := e4
          have h5 := e5
          have h6 := e6
          simp only [decide_eq_true_eq, decide_eq_false_iff_not, beq_iff_eq, beq_eq_false_iff_ne] at h0 h1 h2 h3 h4 h5 h6
        all_goals first | (exfalso; omega) | skip
        all_goals first | (exfalso; simp [e0, e1, e2, e3, e4, e5, e6] at hcs; done) | skip
        all_goals
          clear hcs h0
          go_wp2_with (first
            | (go_at_call 15; with_reducible refine (c1 _ H1.out).mono ?_; rintro e w4 ⟨rfl, hp4, hn4⟩)
            | (go_at_call 15; with_reducible refine (c2 _ (H2.out.near H1.out hne.symm hn4)).mono ?_; rintro e w5 ⟨rfl, hp5, hn5⟩))
          go_roundw
          case rel => exact ⟨j + 1, by omega, by rw [HS.out]; go_num, hp4.near (H2.out.near H1.out hne.symm hn4) hne hn5, hp5, (HN.out.trans (Keep.mono hn4 (fun i hi => .inl hi))).trans (Keep.mono hn5 (fun i hi => .inr hi))⟩
          case measure => simp [intOf]; have := HS.out; omega
      · have hcs : commonS s = false := by simpa using hcs
        clear hcm
        generalize codeV k1 s = v1 at *
        generalize codeV k2 s = v2 at *
        generalize (codeN k1 s).isSome = x1 at *
        generalize (codeN k2 s).isSome = x2 at *
        unfold commonS at hcs
        cases e0 : (s == 32) <;> cases e1 : decide (48 ≤ s) <;> cases e2 : decide (s ≤ 57) <;> cases e3 : decide (65 ≤ s) <;> cases e4 : decide (s ≤ 90) <;> cases e5 : decide (97 ≤ s) <;> cases e6 : decide (s ≤ 122)
        all_goals
          have h0 := e0
          have h1 := e1
          have h2 := e2
          have h3 := e3
          have h4 := e4
          have h5 := e5
          have h6 := e6
          simp only [decide_eq_true_eq, decide_eq_false_iff_not, beq_iff_eq, beq_eq_false_iff_ne] at h0 h1 h2 h3 h4 h5 h6
        all_goals first | (exfalso; omega) | skip
        all_goals first | (exfalso; simp [e0, e1, e2, e3, e4, e5, e6] at hcs; done) | skip
        all_goals
          clear hcs h0
          go_wp2_with (first
            | (go_at_call 15; with_reducible refine (c1 _ H1.out).mono ?_; rintro e w4 ⟨rfl, hp4, hn4⟩)
            | (go_at_call 15; with_reducible refine (c2 _ (H2.out.near H1.out hne.symm hn4)).mono ?_; rintro e w5 ⟨rfl, hp5, hn5⟩))
          go_roundw
          case rel => exact ⟨j + 1, by omega, by rw [HS.out]; go_num, hp4.near (H2.out.near H1.out hne.symm hn4) hne hn5, hp5, (HN.out.trans (Keep.mono hn4 (fun i hi => .inl hi))).trans (Keep.mono hn5 (fun i hi => .inr hi))⟩
          case measure => simp [intOf]; have := HS.out; omega
    · have HK1 := Lib.hid hq1
      clear hq1 hq2
      go_wp2_with fail
      go_ret
      exact ⟨rfl, HU.out.keep (E := fun i => i = b1 ∨ i = b2) HN.out (fun i hi => by rcases hi with hi | hi <;> (subst hi; assumption))⟩
end Go.Proofs.Ythdoighlfoinaaa
