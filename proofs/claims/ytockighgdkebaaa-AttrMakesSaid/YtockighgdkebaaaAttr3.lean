/-
  What attr's Apply and the reference's Apply and Six compute. No condition.
-/
import Derived.Test.YtockighgdkebaaaAttr2
namespace Go.Proofs.Ytockighgdkebaaa
open Go.RowKit
set_option linter.unusedVariables false
set_option linter.unusedSimpArgs false

def six05 (v : Int) : Int := fbits (fP v) (fN v) (fD v) (fM v)
theorem six05_and : ∀ k : Fin 256, bits .and .u8 (k.val : Int) 61 = six05 k.val := by decide +kernel
def aFA (t v : Int) (a : Bool) (fa : Int) : Int := if t = 192 ∧ a = true then six05 v else fa
def aHi (t v x : Int) : Int := if t = 0 ∨ t = 65 then v else x
def aCo (t v x : Int) : Int := if t = 0 ∨ t = 66 then v else x
def aSe (t v x : Int) : Int := if t = 0 ∨ t = 67 then v else x
theorem right_types {t v : Int} (h : rightB t v = true) : (t = 0 ∧ v = 0) ∨ t = 192 ∨ t = 65 ∨ t = 66 ∨ t = 67 := by
  unfold rightB at h
  by_cases h0 : t = 0
  · rw [if_pos h0] at h; exact .inl ⟨h0, by simpa using h⟩
  · by_cases h1 : t = 192
    · exact .inr (.inl h1)
    · by_cases h2 : t = 65
      · exact .inr (.inr (.inl h2))
      · by_cases h3 : t = 66
        · exact .inr (.inr (.inr (.inl h3)))
        · by_cases h4 : t = 67
          · exact .inr (.inr (.inr (.inr h4)))
          · simp [h0, h1, h2, h3, h4] at h

set_option maxHeartbeats 1000000 in
theorem ref_six05_any (b : Int) (w : World) (h0 : 0 ≤ b) (h1 : b ≤ 255) :
    Calls Try.prog 35 #[.int .u8 b] w fun e w' => e = .returned (.int .u8 (six05 b)) ∧ Up w w' := by
  go_enter Try.func35, Try.ntmps35
  go_wp2_with fail
  refine (ref_of_any _ _ h0 h1).mono ?_
  rintro e w1 ⟨rfl, hb_w1⟩
  have hu_w1 : Up w w1 := by (repeat (first | with_reducible exact Up.refl _ | with_reducible refine Up.alloc ?_ _ | with_reducible refine Up.drew ?_ | with_reducible refine Up.drewN ?_ _ | with_reducible refine Up.setCell ?_ (by (try simp) <;> omega) _ | with_reducible assumption | with_reducible refine Up.trans ?_ (by assumption)))
  have hz_w1 := Up.size hb_w1
  try simp at hz_w1
  go_wp2_with fail
  refine (ref_bits_good _ _ _ _ _ (fD_bd b).1 (fD_bd b).2).mono ?_
  rintro e w2 ⟨rfl, hb_w2⟩
  have hu_w2 : Up w1 w2 := by (repeat (first | with_reducible exact Up.refl _ | with_reducible refine Up.alloc ?_ _ | with_reducible refine Up.drew ?_ | with_reducible refine Up.drewN ?_ _ | with_reducible refine Up.setCell ?_ (by (try simp) <;> omega) _ | with_reducible assumption | with_reducible refine Up.trans ?_ (by assumption)))
  have hz_w2 := Up.size hb_w2
  try simp at hz_w2
  go_wp2_with fail
  go_ret
  exact ⟨rfl, by (repeat (first | with_reducible exact Up.refl _ | with_reducible refine Up.alloc ?_ _ | with_reducible refine Up.drew ?_ | with_reducible refine Up.drewN ?_ _ | with_reducible refine Up.setCell ?_ (by (try simp) <;> omega) _ | with_reducible assumption | with_reducible refine Up.trans ?_ (by assumption)))⟩

set_option maxHeartbeats 1000000 in
theorem apply_bad (t v ch fa hi co se : Int) (a : Bool) (w : World) (hr : rightB t v = false) :
    Calls Try.prog 18 #[.agg #[.int .u8 t, .int .u8 v], .agg #[.int .u8 ch, .bool a, .int .u8 fa, .int .u8 hi, .int .u8 co, .int .u8 se]] w fun e w' =>
      e = .returned (.tuple #[.agg #[.int .u8 0, .bool false, .int .u8 0, .int .u8 0, .int .u8 0, .int .u8 0], .int .i64 10]) ∧ Up w w' := by
  go_enter Try.func18, Try.ntmps18
  go_wp2_with fail
  refine (check_any _ _ _).mono ?_
  rintro e w1 ⟨rfl, hb_w1⟩
  have hu_w1 : Up w w1 := by (repeat (first | with_reducible exact Up.refl _ | with_reducible refine Up.alloc ?_ _ | with_reducible refine Up.drew ?_ | with_reducible refine Up.drewN ?_ _ | with_reducible refine Up.setCell ?_ (by (try simp) <;> omega) _ | with_reducible assumption | with_reducible refine Up.trans ?_ (by assumption)))
  have hz_w1 := Up.size hb_w1
  try simp at hz_w1
  obtain ⟨bd_w1_0, be_w1_0⟩ := hb_w1.at_ (w.heap.size) (by (try simp) <;> omega)
  obtain ⟨bd_w1_1, be_w1_1⟩ := hb_w1.at_ (w.heap.size + 1) (by (try simp) <;> omega)
  obtain ⟨bd_w1_2, be_w1_2⟩ := hb_w1.at_ (w.heap.size + 2) (by (try simp) <;> omega)
  have zb_w1_0 : w.heap.size < w1.heap.size := by omega
  have zb_w1_1 : w.heap.size + 1 < w1.heap.size := by omega
  have zb_w1_2 : w.heap.size + 2 < w1.heap.size := by omega
  go_wp2_with fail
  refine bodyPost_ret (v := .tuple #[.agg #[.int .u8 0, .bool false, .int .u8 0, .int .u8 0, .int .u8 0, .int .u8 0], .int .i64 10]) (by simp [results, Try.results18, go_sem, *]) rfl ⟨rfl, by (repeat (first | with_reducible exact Up.refl _ | with_reducible refine Up.alloc ?_ _ | with_reducible refine Up.drew ?_ | with_reducible refine Up.drewN ?_ _ | with_reducible refine Up.setCell ?_ (by (try simp) <;> omega) _ | with_reducible assumption | with_reducible refine Up.trans ?_ (by assumption)))⟩
theorem and61 (v : Int) (h0 : 0 ≤ v) (h1 : v ≤ 255) : bits .and .u8 v 61 = six05 v := by
  have h := six05_and ⟨v.toNat, by omega⟩
  have e : ((v.toNat : Nat) : Int) = v := by omega
  simp only [e] at h
  exact h
set_option maxHeartbeats 2000000 in
theorem apply_good (t v ch fa hi co se : Int) (a : Bool) (w : World) (hr : rightB t v = true) (h0 : 0 ≤ v) (h1 : v ≤ 255) :
    Calls Try.prog 18 #[.agg #[.int .u8 t, .int .u8 v], .agg #[.int .u8 ch, .bool a, .int .u8 fa, .int .u8 hi, .int .u8 co, .int .u8 se]] w fun e w' =>
      e = .returned (.tuple #[.agg #[.int .u8 ch, .bool a, .int .u8 (aFA t v a fa), .int .u8 (aHi t v hi), .int .u8 (aCo t v co), .int .u8 (aSe t v se)], .int .i64 0]) ∧ Up w w' := by
  have h61 := and61 v h0 h1
  rcases right_types hr with ⟨rfl, rfl⟩ | rfl | rfl | rfl | rfl
  all_goals
    cases a
    all_goals
      go_enter Try.func18, Try.ntmps18
      go_wp2_with fail
      refine (check_any _ _ _).mono ?_
      rintro e w1 ⟨rfl, hb_w1⟩
      have hu_w1 : Up w w1 := by (repeat (first | with_reducible exact Up.refl _ | with_reducible refine Up.alloc ?_ _ | with_reducible refine Up.drew ?_ | with_reducible refine Up.drewN ?_ _ | with_reducible refine Up.setCell ?_ (by (try simp) <;> omega) _ | with_reducible assumption | with_reducible refine Up.trans ?_ (by assumption)))
      have hz_w1 := Up.size hb_w1
      try simp at hz_w1
      obtain ⟨bd_w1_0, be_w1_0⟩ := hb_w1.at_ (w.heap.size) (by (try simp) <;> omega)
      obtain ⟨bd_w1_1, be_w1_1⟩ := hb_w1.at_ (w.heap.size + 1) (by (try simp) <;> omega)
      obtain ⟨bd_w1_2, be_w1_2⟩ := hb_w1.at_ (w.heap.size + 2) (by (try simp) <;> omega)
      have zb_w1_0 : w.heap.size < w1.heap.size := by omega
      have zb_w1_1 : w.heap.size + 1 < w1.heap.size := by omega
      have zb_w1_2 : w.heap.size + 2 < w1.heap.size := by omega
      go_wp2_with fail
      exact bodyPost_ret (v := _) (by simp [results, Try.results18, go_sem, aFA, aHi, aCo, aSe, *]) rfl ⟨rfl, by (repeat (first | with_reducible exact Up.refl _ | with_reducible refine Up.alloc ?_ _ | with_reducible refine Up.drew ?_ | with_reducible refine Up.drewN ?_ _ | with_reducible refine Up.setCell ?_ (by (try simp) <;> omega) _ | with_reducible assumption | with_reducible refine Up.trans ?_ (by assumption)))⟩

set_option maxHeartbeats 1000000 in
theorem ref_apply_bad (t v ch fa hi co se : Int) (a : Bool) (w : World) (hr : rightB t v = false) :
    Calls Try.prog 19 #[.agg #[.int .u8 t, .int .u8 v], .agg #[.int .u8 ch, .bool a, .int .u8 fa, .int .u8 hi, .int .u8 co, .int .u8 se]] w fun e w' =>
      e = .returned (.tuple #[.agg #[.int .u8 0, .bool false, .int .u8 0, .int .u8 0, .int .u8 0, .int .u8 0], .int .i64 10]) ∧ Up w w' := by
  go_enter Try.func19, Try.ntmps19
  go_wp2_with fail
  refine (right_any _ _ _).mono ?_
  rintro e w1 ⟨rfl, hb_w1⟩
  have hu_w1 : Up w w1 := by (repeat (first | with_reducible exact Up.refl _ | with_reducible refine Up.alloc ?_ _ | with_reducible refine Up.drew ?_ | with_reducible refine Up.drewN ?_ _ | with_reducible refine Up.setCell ?_ (by (try simp) <;> omega) _ | with_reducible assumption | with_reducible refine Up.trans ?_ (by assumption)))
  have hz_w1 := Up.size hb_w1
  try simp at hz_w1
  obtain ⟨bd_w1_0, be_w1_0⟩ := hb_w1.at_ (w.heap.size) (by (try simp) <;> omega)
  obtain ⟨bd_w1_1, be_w1_1⟩ := hb_w1.at_ (w.heap.size + 1) (by (try simp) <;> omega)
  obtain ⟨bd_w1_2, be_w1_2⟩ := hb_w1.at_ (w.heap.size + 2) (by (try simp) <;> omega)
  have zb_w1_0 : w.heap.size < w1.heap.size := by omega
  have zb_w1_1 : w.heap.size + 1 < w1.heap.size := by omega
  have zb_w1_2 : w.heap.size + 2 < w1.heap.size := by omega
  go_wp2_with fail
  exact bodyPost_ret (v := _) (by simp [results, Try.results19, go_sem, *]) rfl ⟨rfl, by (repeat (first | with_reducible exact Up.refl _ | with_reducible refine Up.alloc ?_ _ | with_reducible refine Up.drew ?_ | with_reducible refine Up.drewN ?_ _ | with_reducible refine Up.setCell ?_ (by (try simp) <;> omega) _ | with_reducible assumption | with_reducible refine Up.trans ?_ (by assumption)))⟩
set_option maxHeartbeats 2000000 in
theorem ref_apply_good (t v ch fa hi co se : Int) (a : Bool) (w : World) (hr : rightB t v = true) (h0 : 0 ≤ v) (h1 : v ≤ 255) :
    Calls Try.prog 19 #[.agg #[.int .u8 t, .int .u8 v], .agg #[.int .u8 ch, .bool a, .int .u8 fa, .int .u8 hi, .int .u8 co, .int .u8 se]] w fun e w' =>
      e = .returned (.tuple #[.agg #[.int .u8 ch, .bool a, .int .u8 (aFA t v a fa), .int .u8 (aHi t v hi), .int .u8 (aCo t v co), .int .u8 (aSe t v se)], .int .i64 0]) ∧ Up w w' := by
  rcases right_types hr with ⟨rfl, rfl⟩ | rfl | rfl | rfl | rfl
  case inr.inl =>
    cases a
    · go_enter Try.func19, Try.ntmps19
      go_wp2_with fail
      refine (right_any _ _ _).mono ?_
      rintro e w1 ⟨rfl, hb_w1⟩
      have hu_w1 : Up w w1 := by (repeat (first | with_reducible exact Up.refl _ | with_reducible refine Up.alloc ?_ _ | with_reducible refine Up.drew ?_ | with_reducible refine Up.drewN ?_ _ | with_reducible refine Up.setCell ?_ (by (try simp) <;> omega) _ | with_reducible assumption | with_reducible refine Up.trans ?_ (by assumption)))
      have hz_w1 := Up.size hb_w1
      try simp at hz_w1
      obtain ⟨bd_w1_0, be_w1_0⟩ := hb_w1.at_ (w.heap.size) (by (try simp) <;> omega)
      obtain ⟨bd_w1_1, be_w1_1⟩ := hb_w1.at_ (w.heap.size + 1) (by (try simp) <;> omega)
      obtain ⟨bd_w1_2, be_w1_2⟩ := hb_w1.at_ (w.heap.size + 2) (by (try simp) <;> omega)
      have zb_w1_0 : w.heap.size < w1.heap.size := by omega
      have zb_w1_1 : w.heap.size + 1 < w1.heap.size := by omega
      have zb_w1_2 : w.heap.size + 2 < w1.heap.size := by omega
      go_wp2_with fail
      exact bodyPost_ret (v := _) (by simp [results, Try.results19, go_sem, aFA, aHi, aCo, aSe, *]) rfl ⟨rfl, by (repeat (first | with_reducible exact Up.refl _ | with_reducible refine Up.alloc ?_ _ | with_reducible refine Up.drew ?_ | with_reducible refine Up.drewN ?_ _ | with_reducible refine Up.setCell ?_ (by (try simp) <;> omega) _ | with_reducible assumption | with_reducible refine Up.trans ?_ (by assumption)))⟩
    · go_enter Try.func19, Try.ntmps19
      go_wp2_with fail
      refine (right_any _ _ _).mono ?_
      rintro e w1 ⟨rfl, hb_w1⟩
      have hu_w1 : Up w w1 := by (repeat (first | with_reducible exact Up.refl _ | with_reducible refine Up.alloc ?_ _ | with_reducible refine Up.drew ?_ | with_reducible refine Up.drewN ?_ _ | with_reducible refine Up.setCell ?_ (by (try simp) <;> omega) _ | with_reducible assumption | with_reducible refine Up.trans ?_ (by assumption)))
      have hz_w1 := Up.size hb_w1
      try simp at hz_w1
      obtain ⟨bd_w1_0, be_w1_0⟩ := hb_w1.at_ (w.heap.size) (by (try simp) <;> omega)
      obtain ⟨bd_w1_1, be_w1_1⟩ := hb_w1.at_ (w.heap.size + 1) (by (try simp) <;> omega)
      obtain ⟨bd_w1_2, be_w1_2⟩ := hb_w1.at_ (w.heap.size + 2) (by (try simp) <;> omega)
      have zb_w1_0 : w.heap.size < w1.heap.size := by omega
      have zb_w1_1 : w.heap.size + 1 < w1.heap.size := by omega
      have zb_w1_2 : w.heap.size + 2 < w1.heap.size := by omega
      go_wp2_with fail
      refine (ref_six05_any _ _ h0 h1).mono ?_
      rintro e w2 ⟨rfl, hb_w2⟩
      have hu_w2 : Up w1 w2 := by (repeat (first | with_reducible exact Up.refl _ | with_reducible refine Up.alloc ?_ _ | with_reducible refine Up.drew ?_ | with_reducible refine Up.drewN ?_ _ | with_reducible refine Up.setCell ?_ (by (try simp) <;> omega) _ | with_reducible assumption | with_reducible refine Up.trans ?_ (by assumption)))
      have hz_w2 := Up.size hb_w2
      try simp at hz_w2
      obtain ⟨bc_w2_0, bf_w2_0⟩ := hu_w2.at_ (w.heap.size) (by omega)
      obtain ⟨bc_w2_1, bf_w2_1⟩ := hu_w2.at_ (w.heap.size + 1) (by omega)
      obtain ⟨bc_w2_2, bf_w2_2⟩ := hu_w2.at_ (w.heap.size + 2) (by omega)
      obtain ⟨bd_w2_0, be_w2_0⟩ := hb_w2.at_ (w1.heap.size) (by (try simp) <;> omega)
      have zb_w2_0 : w.heap.size < w2.heap.size := by omega
      have zb_w2_1 : w.heap.size + 1 < w2.heap.size := by omega
      have zb_w2_2 : w.heap.size + 2 < w2.heap.size := by omega
      have zb_w2_3 : w1.heap.size < w2.heap.size := by omega
      go_wp2_with fail
      exact bodyPost_ret (v := _) (by simp [results, Try.results19, go_sem, aFA, aHi, aCo, aSe, *]) rfl ⟨rfl, by (repeat (first | with_reducible exact Up.refl _ | with_reducible refine Up.alloc ?_ _ | with_reducible refine Up.drew ?_ | with_reducible refine Up.drewN ?_ _ | with_reducible refine Up.setCell ?_ (by (try simp) <;> omega) _ | with_reducible assumption | with_reducible refine Up.trans ?_ (by assumption)))⟩
  all_goals
    cases a
    all_goals
      go_enter Try.func19, Try.ntmps19
      go_wp2_with fail
      refine (right_any _ _ _).mono ?_
      rintro e w1 ⟨rfl, hb_w1⟩
      have hu_w1 : Up w w1 := by (repeat (first | with_reducible exact Up.refl _ | with_reducible refine Up.alloc ?_ _ | with_reducible refine Up.drew ?_ | with_reducible refine Up.drewN ?_ _ | with_reducible refine Up.setCell ?_ (by (try simp) <;> omega) _ | with_reducible assumption | with_reducible refine Up.trans ?_ (by assumption)))
      have hz_w1 := Up.size hb_w1
      try simp at hz_w1
      obtain ⟨bd_w1_0, be_w1_0⟩ := hb_w1.at_ (w.heap.size) (by (try simp) <;> omega)
      obtain ⟨bd_w1_1, be_w1_1⟩ := hb_w1.at_ (w.heap.size + 1) (by (try simp) <;> omega)
      obtain ⟨bd_w1_2, be_w1_2⟩ := hb_w1.at_ (w.heap.size + 2) (by (try simp) <;> omega)
      have zb_w1_0 : w.heap.size < w1.heap.size := by omega
      have zb_w1_1 : w.heap.size + 1 < w1.heap.size := by omega
      have zb_w1_2 : w.heap.size + 2 < w1.heap.size := by omega
      go_wp2_with fail
      exact bodyPost_ret (v := _) (by simp [results, Try.results19, go_sem, aFA, aHi, aCo, aSe, *]) rfl ⟨rfl, by (repeat (first | with_reducible exact Up.refl _ | with_reducible refine Up.alloc ?_ _ | with_reducible refine Up.drew ?_ | with_reducible refine Up.drewN ?_ _ | with_reducible refine Up.setCell ?_ (by (try simp) <;> omega) _ | with_reducible assumption | with_reducible refine Up.trans ?_ (by assumption)))⟩
end Go.Proofs.Ytockighgdkebaaa
