/-
  What the reference's Answer and the law's awake compute (the latter over the table of names). No condition.
-/
import Derived.Test.YtockighgdkebaaaDoorHead3
namespace Go.Proofs.YtockighgdkebaaaDoor
open Go.RowKit
set_option linter.unusedVariables false
set_option linter.unusedSimpArgs false

set_option maxHeartbeats 800000 in
theorem ref_answer_none (t q r s e : Int) (w : World) (h2 : 0 ≤ r) (h : quietH t r e) :
    Calls Tryd.prog 8 #[.agg #[.int .u8 t, .int .u8 q, .int .u8 r, .int .u16 s], .int .i64 e] w fun x w' => x = .returned (.slice none 0 0) ∧ Up w w' := by
  by_cases b1 : t = 2 ∨ t = 6
  · rcases b1 with rfl | rfl
    all_goals
      go_enter Tryd.func8, Tryd.ntmps8
      go_wp2
      go_ret
      exact ⟨rfl, by (repeat (first | with_reducible exact Up.refl _ | with_reducible refine Up.alloc ?_ _ | with_reducible refine Up.drew ?_ | with_reducible refine Up.drewN ?_ _ | with_reducible refine Up.setCell ?_ (by (try simp) <;> omega) _ | with_reducible assumption | with_reducible refine Up.trans ?_ (by assumption)))⟩
  · have t2 : (t == 2) = false := by simp; omega
    have t6 : (t == 6) = false := by simp; omega
    have hr : r = 0 ∨ 2 < r ∨ (r = 1 ∧ e = 0) := by unfold quietH at h; omega
    rcases hr with rfl | hr | ⟨rfl, rfl⟩
    · go_enter Tryd.func8, Tryd.ntmps8
      go_wp2
      go_ret
      exact ⟨rfl, by (repeat (first | with_reducible exact Up.refl _ | with_reducible refine Up.alloc ?_ _ | with_reducible refine Up.drew ?_ | with_reducible refine Up.drewN ?_ _ | with_reducible refine Up.setCell ?_ (by (try simp) <;> omega) _ | with_reducible assumption | with_reducible refine Up.trans ?_ (by assumption)))⟩
    · have r1 : (r == 1) = false := by simp; omega
      have r2 : (r == 2) = false := by simp; omega
      go_enter Tryd.func8, Tryd.ntmps8
      go_wp2
      go_ret
      exact ⟨rfl, by (repeat (first | with_reducible exact Up.refl _ | with_reducible refine Up.alloc ?_ _ | with_reducible refine Up.drew ?_ | with_reducible refine Up.drewN ?_ _ | with_reducible refine Up.setCell ?_ (by (try simp) <;> omega) _ | with_reducible assumption | with_reducible refine Up.trans ?_ (by assumption)))⟩
    · go_enter Tryd.func8, Tryd.ntmps8
      go_wp2
      go_ret
      exact ⟨rfl, by (repeat (first | with_reducible exact Up.refl _ | with_reducible refine Up.alloc ?_ _ | with_reducible refine Up.drew ?_ | with_reducible refine Up.drewN ?_ _ | with_reducible refine Up.setCell ?_ (by (try simp) <;> omega) _ | with_reducible assumption | with_reducible refine Up.trans ?_ (by assumption)))⟩
set_option maxHeartbeats 800000 in
theorem ref_answer_pos (t q s : Int) (w : World) (h4 : 0 ≤ s) (h5 : s ≤ 65535) (t2 : (t == 2) = false) (t6 : (t == 6) = false) :
    Calls Tryd.prog 8 #[.agg #[.int .u8 t, .int .u8 q, .int .u8 2, .int .u16 s], .int .i64 0] w fun x w' => ∃ A k, x = .returned (.slice A 6 k) ∧ Made w w' A k (resp 0 s 0) ∧ Up w w' := by
  go_enter Tryd.func8, Tryd.ntmps8
  go_wp2_with fail
  refine (response_pos _ _ _ h4 h5).mono ?_
  rintro e w1 ⟨A, k, rfl, hm, hu⟩
  go_wp2
  go_ret
  exact ⟨A, k, rfl, ⟨own_base hm.1 (by simp), hm.2⟩, by (repeat (first | with_reducible exact Up.refl _ | with_reducible refine Up.alloc ?_ _ | with_reducible refine Up.drew ?_ | with_reducible refine Up.drewN ?_ _ | with_reducible refine Up.setCell ?_ (by (try simp) <;> omega) _ | with_reducible assumption | with_reducible refine Up.trans ?_ (by assumption)))⟩
set_option maxHeartbeats 800000 in
theorem ref_answer_neg (t q r s e : Int) (w : World) (h4 : 0 ≤ s) (h5 : s ≤ 65535) (t2 : (t == 2) = false) (t6 : (t == 6) = false) (hr : r = 1 ∨ r = 2) (he : (e == 0) = false) :
    Calls Tryd.prog 8 #[.agg #[.int .u8 t, .int .u8 q, .int .u8 r, .int .u16 s], .int .i64 e] w fun x w' => ∃ A k, x = .returned (.slice A 6 k) ∧ Made w w' A k (resp 1 s (codeOf e)) ∧ Up w w' := by
  rcases hr with rfl | rfl
  all_goals
    go_enter Tryd.func8, Tryd.ntmps8
    go_wp2
    go_region_held3 (fun w' => w'.cell? ⟨w.heap.size, 3, none⟩ = some (.int .u16 s)) (first | go_keep | trivial) (first | (go_at_call 11; refine (ref_code_any _ _).mono ?_; rintro x w' ⟨rfl, rfl⟩) | (go_at_call 20; refine (response_neg _ _ _ h4 h5).mono ?_; rintro x w1 ⟨A, k, rfl, hm, hu⟩; obtain ⟨bc, bf⟩ := hu.at_ w.heap.size (by (try simp) <;> omega)))
    go_wp2
    go_ret
    exact ⟨A, k, rfl, ⟨own_base hm.1 (by simp), hm.2⟩, by (repeat (first | with_reducible exact Up.refl _ | with_reducible refine Up.alloc ?_ _ | with_reducible refine Up.drew ?_ | with_reducible refine Up.drewN ?_ _ | with_reducible refine Up.setCell ?_ (by (try simp) <;> omega) _ | with_reducible assumption | with_reducible refine Up.trans ?_ (by assumption)))⟩

theorem Made.reads {w w' : World} {A : Option Addr} {c : Nat} {l : List Int} (h : Made w w' A c l) : Reads w' w'.heap.size 1 A l.length (bs l) := Reads.of_own h.1
set_option maxHeartbeats 1600000 in
theorem awake09 (w : World) (hT : TabH w) : Calls Tryd.prog 6 #[] w fun e w' => e = .returned (.bool true) ∧ Up w w' := by
  have hr0 : Reads (w.alloc (.cells #[.int .u8 0, .int .u8 0, .int .u8 2, .int .u8 0, .int .u8 5, .int .u8 241] 5)) (w.heap.size + 1) 1 (some ⟨w.heap.size, 0, none⟩) 6 (bs (0 :: 0 :: 2 :: 0 :: 5 :: [241])) := reads_new w 1 6 _ _ rfl
  go_enter Tryd.func6, Tryd.ntmps6
  go_wp2_with fail
  refine (hparse_good _ _ _ _ _ _ _ _ [241] _ (by simpa using hr0) (by decide) (by omega) (by omega) (by simp [maxLen]) rfl).mono ?_
  rintro e w1 ⟨A1, c1, rfl, ho1, hle1, hmx1, u1⟩
  have hrr : Reads w1 w1.heap.size 1 A1 1 (bs [241]) := Reads.of_own ho1
  go_wp2_with fail
  refine (hanswer_pos _ _ _ _ (by omega) (by omega) rfl rfl).mono ?_
  rintro e w2 ⟨A2, c2, rfl, hm2, u2⟩
  have hr2 : Reads w2 w2.heap.size 1 A2 6 (bs [2, 0, 0, 0, 5, 0]) := hm2.reads
  have u12 : Up w1 w2 := by (repeat (first | with_reducible exact Up.refl _ | with_reducible refine Up.alloc ?_ _ | with_reducible refine Up.drew ?_ | with_reducible refine Up.drewN ?_ _ | with_reducible refine Up.setCell ?_ (by (try simp) <;> omega) _ | with_reducible assumption | with_reducible refine Up.trans ?_ (by assumption)))
  obtain ⟨bc, bf⟩ := u2.at_ w1.heap.size (by (try simp) <;> omega)
  go_wp2_with fail
  refine (same_any _ _ _ _ _ _ _ _ [241] [241] _ (hrr.up ((u12.alloc _))) (reads_at _ _ 1 1 #[.int .u8 241] _ rfl (by simp)) (by decide) (by decide)).mono ?_
  rintro e w' ⟨rfl, rfl⟩
  rw [show decide (([241] : List Int) = [241]) = true from rfl]
  go_wp2_with fail
  refine (same_any _ _ _ _ _ _ _ _ [2, 0, 0, 0, 5, 0] [2, 0, 0, 0, 5, 0] _ (hr2.up (((Up.refl _).alloc _).alloc _)) (reads_at _ _ 1 6 #[.int .u8 2, .int .u8 0, .int .u8 0, .int .u8 0, .int .u8 5, .int .u8 0] _ rfl (by simp)) (by decide) (by decide)).mono ?_
  rintro e w' ⟨rfl, rfl⟩
  rw [show decide (([2, 0, 0, 0, 5, 0] : List Int) = [2, 0, 0, 0, 5, 0]) = true from rfl]
  go_wp2_with fail
  refine (name_any _ _ (by omega) (by omega) (hT.up (by (repeat (first | with_reducible exact Up.refl _ | with_reducible refine Up.alloc ?_ _ | with_reducible refine Up.drew ?_ | with_reducible refine Up.drewN ?_ _ | with_reducible refine Up.setCell ?_ (by (try simp) <;> omega) _ | with_reducible assumption | with_reducible refine Up.trans ?_ (by assumption)))))).mono ?_
  rintro e w3 ⟨rfl, u3⟩
  rw [show nameOf 0 = { data := #[51, 50, 55, 48, 45, 68, 65, 84, 65] } from rfl]
  go_wp2
  go_ret
  exact ⟨ret_bool (by decide), by (repeat (first | with_reducible exact Up.refl _ | with_reducible refine Up.alloc ?_ _ | with_reducible refine Up.drew ?_ | with_reducible refine Up.drewN ?_ _ | with_reducible refine Up.setCell ?_ (by (try simp) <;> omega) _ | with_reducible assumption | with_reducible refine Up.trans ?_ (by assumption)))⟩
end Go.Proofs.YtockighgdkebaaaDoor
