/-
  The walks of law 04's awake, AddrModels, AddrSixes. No condition.
-/
import Derived.Test.YtejnblncnpfkaaaAddr4
namespace Go.Proofs.Ytejnblncnpfkaaa
open Go.RowKit
set_option linter.unusedVariables false
set_option linter.unusedSimpArgs false

theorem move_is {r c n rows cols m : Int} (h : validB r c = true) (hm : moveN r c n rows cols = m) (w : World) :
    Calls Try.prog 13 #[.agg #[.int .i64 r, .int .i64 c], .int .i64 n, .int .i64 rows, .int .i64 cols] w fun e w' => e = .returned (.int .i64 m) ∧ Up w w' := by
  rw [← hm]; exact move_good r c n rows cols w h
theorem unsix_six0 : ∀ k : Fin 64, unsixOf (sixOf (k.val : Int)) = (k.val : Int) := by decide +kernel
theorem unsix_six (j : Nat) (h : j < 64) : unsixOf (sixOf (j : Int)) = (j : Int) := unsix_six0 ⟨j, h⟩
theorem decode_is {b a0 a1 x y : Int} (hx : decN b a0 a1 = x) (hy : decE b a0 = y) (A : Option Addr) (n c : Nat) (l : List Int) (w : World) (h : bitsB b) (hr : Reads w w.heap.size 1 A n (bs (a0 :: a1 :: l))) (hw : ∀ x ∈ a0 :: a1 :: l, 0 ≤ x ∧ x ≤ 255) (hn : n ≤ 65536) :
    Calls Try.prog 21 #[.int .i64 b, .slice A n c] w fun e w' => e = .returned (.tuple #[.int .i64 x, .int .i64 y]) ∧ Up w w' := by
  rw [← hx, ← hy]; exact decode_ok b A n c a0 a1 l w h hr hw hn

theorem reads_lit (W : World) (cs : Array Value) (t : TypeId) (l : List Int) (n : Nat) (h : cs = (bs l).toArray) (hn : l.length = n) (g : Nat) (hg : g = W.heap.size) (B : Nat) (hB : W.heap.size < B) :
    Reads (W.alloc (.cells cs t)) B 1 (some ⟨g, 0, none⟩) n (bs l) := by
  have := (reads_at W g 1 n cs t (by rw [h]; simp [bs, hn]) hg).more (show W.heap.size + 1 ≤ B from hB)
  rw [h] at this ⊢
  simpa using this

theorem same_yes (A A' : Option Addr) (n n' c c' B B' : Nat) (l l' : List Int) (w : World) (h : l = l') (hr : Reads w B 1 A n (bs l)) (hr' : Reads w B' 1 A' n' (bs l')) (hl : ∀ x ∈ l', 0 ≤ x ∧ x ≤ 255) :
    Calls Try.prog 20 #[.slice A n c, .slice A' n' c'] w fun e w' => e = .returned (.bool true) ∧ w = w' := by
  subst h
  refine (same_any A A' n n' c c' B B' l l w hr hr' hl hl).mono ?_
  rintro e w' ⟨rfl, rfl⟩
  simp

set_option maxRecDepth 100000 in
set_option maxHeartbeats 1600000 in
theorem awake04 (w : World) : Calls Try.prog 9 #[] w fun e w' => e = .returned (.bool true) ∧ Up w w' := by
  have e1 : encL 12 81 = [193, 209] := by decide +kernel
  have m1 : moveN 24 80 1919 1 0 = 79 := by decide +kernel
  have m2 : moveN 24 80 1919 0 1 = 0 := by decide +kernel
  have hv : validB 24 80 = true := by decide +kernel
  have hr2 : modelR 2 = 24 := by decide
  have hc2 : modelC 2 = 80 := by decide
  go_enter Try.func9, Try.ntmps9
  go_wp2_with fail
  refine ((hr2 ▸ hc2 ▸ model_good 2 _ (.inl rfl))).mono ?_
  rintro e w1 ⟨rfl, hb_w1⟩
  have hu_w1 : Up w w1 := by (repeat (first | with_reducible exact Up.refl _ | with_reducible refine Up.alloc ?_ _ | with_reducible refine Up.drew ?_ | with_reducible refine Up.drewN ?_ _ | with_reducible refine Up.setCell ?_ (by (try simp) <;> omega) _ | with_reducible assumption | with_reducible refine Up.trans ?_ (by assumption)))
  have hz_w1 := Up.size hb_w1
  try simp at hz_w1
  go_wp2_with fail
  refine (encode_ok 12 81 _ (.inl rfl) (by decide) (by decide)).mono ?_
  rintro e w2 ⟨A, c, rfl, hm2, hb_w2⟩
  have hu_w2 : Up w1 w2 := by (repeat (first | with_reducible exact Up.refl _ | with_reducible refine Up.alloc ?_ _ | with_reducible refine Up.drew ?_ | with_reducible refine Up.drewN ?_ _ | with_reducible refine Up.setCell ?_ (by (try simp) <;> omega) _ | with_reducible assumption | with_reducible refine Up.trans ?_ (by assumption)))
  have hz_w2 := Up.size hb_w2
  try simp at hz_w2
  obtain ⟨bd_w2_0, be_w2_0⟩ := hb_w2.at_ (w1.heap.size) (by (try simp) <;> omega)
  have zb_w2_0 : w1.heap.size < w2.heap.size := by omega
  go_wp2_with fail
  refine (decode_is (a0 := 0) (a1 := 81) (x := 81) (y := 0) (by decide +kernel) (by decide) _ _ _ [] _ (.inl rfl) (reads_lit _ _ _ [0, 81] 2 rfl rfl _ (by simp) _ (by simp)) (by simp) (by omega)).mono ?_
  rintro e w3 ⟨rfl, hb_w3⟩
  have hu_w3 : Up w2 w3 := by (repeat (first | with_reducible exact Up.refl _ | with_reducible refine Up.alloc ?_ _ | with_reducible refine Up.drew ?_ | with_reducible refine Up.drewN ?_ _ | with_reducible refine Up.setCell ?_ (by (try simp) <;> omega) _ | with_reducible assumption | with_reducible refine Up.trans ?_ (by assumption)))
  have hz_w3 := Up.size hb_w3
  try simp at hz_w3
  obtain ⟨bc_w3_0, bf_w3_0⟩ := hu_w3.at_ (w1.heap.size) (by omega)
  have zb_w3_0 : w1.heap.size < w3.heap.size := by omega
  go_wp2_with fail
  have hmr := hm2.reads.below (hu_w3)
  refine (same_yes _ _ _ _ _ _ _ _ _ [193, 209] _ e1 (hmr.alloc (by omega) _) (reads_lit _ _ _ [193, 209] 2 rfl rfl _ rfl _ (Nat.lt_succ_self _)) (by simp)).mono ?_
  rintro e w' ⟨rfl, rfl⟩
  go_wp2_with fail
  refine (move_is hv m1 _).mono ?_
  rintro e w5 ⟨rfl, hb_w5⟩
  have hu_w5 : Up w3 w5 := by (repeat (first | with_reducible exact Up.refl _ | with_reducible refine Up.alloc ?_ _ | with_reducible refine Up.drew ?_ | with_reducible refine Up.drewN ?_ _ | with_reducible refine Up.setCell ?_ (by (try simp) <;> omega) _ | with_reducible assumption | with_reducible refine Up.trans ?_ (by assumption)))
  have hz_w5 := Up.size hb_w5
  try simp at hz_w5
  obtain ⟨bc_w5_0, bf_w5_0⟩ := hu_w5.at_ (w1.heap.size) (by omega)
  have zb_w5_0 : w1.heap.size < w5.heap.size := by omega
  go_wp2_with fail
  refine (move_is hv m2 _).mono ?_
  rintro e w6 ⟨rfl, hb_w6⟩
  have hu_w6 : Up w5 w6 := by (repeat (first | with_reducible exact Up.refl _ | with_reducible refine Up.alloc ?_ _ | with_reducible refine Up.drew ?_ | with_reducible refine Up.drewN ?_ _ | with_reducible refine Up.setCell ?_ (by (try simp) <;> omega) _ | with_reducible assumption | with_reducible refine Up.trans ?_ (by assumption)))
  have hz_w6 := Up.size hb_w6
  try simp at hz_w6
  obtain ⟨bc_w6_0, bf_w6_0⟩ := hu_w6.at_ (w1.heap.size) (by omega)
  have zb_w6_0 : w1.heap.size < w6.heap.size := by omega
  go_wp2_with fail
  go_ret
  exact ⟨rfl, by (repeat (first | with_reducible exact Up.refl _ | with_reducible refine Up.alloc ?_ _ | with_reducible refine Up.drew ?_ | with_reducible refine Up.drewN ?_ _ | with_reducible refine Up.setCell ?_ (by (try simp) <;> omega) _ | with_reducible assumption | with_reducible refine Up.trans ?_ (by assumption)))⟩

theorem model_valid {n : Int} (h : n = 2 ∨ n = 3 ∨ n = 4 ∨ n = 5) : validB (modelR n) (modelC n) = true := by
  rcases h with rfl | rfl | rfl | rfl <;> decide +kernel
set_option maxHeartbeats 1600000 in
theorem law_models (n : Int) (w : World) (_ : -9223372036854775808 ≤ n) (_ : n ≤ 9223372036854775807) :
    Calls Try.prog 3 #[.int .i64 n] w fun e w' => e = .returned (.bool true) ∧ Up w w' := by
  by_cases h : n = 2 ∨ n = 3 ∨ n = 4 ∨ n = 5
  · go_enter Try.func3, Try.ntmps3
    go_wp2_with fail
    refine (awake04 _).mono ?_
    rintro e w1 ⟨rfl, hb_w1⟩
    have hu_w1 : Up w w1 := by (repeat (first | with_reducible exact Up.refl _ | with_reducible refine Up.alloc ?_ _ | with_reducible refine Up.drew ?_ | with_reducible refine Up.drewN ?_ _ | with_reducible refine Up.setCell ?_ (by (try simp) <;> omega) _ | with_reducible assumption | with_reducible refine Up.trans ?_ (by assumption)))
    have hz_w1 := Up.size hb_w1
    try simp at hz_w1
    go_wp2_with fail
    refine (model_good n _ h).mono ?_
    rintro e w2 ⟨rfl, hb_w2⟩
    have hu_w2 : Up w1 w2 := by (repeat (first | with_reducible exact Up.refl _ | with_reducible refine Up.alloc ?_ _ | with_reducible refine Up.drew ?_ | with_reducible refine Up.drewN ?_ _ | with_reducible refine Up.setCell ?_ (by (try simp) <;> omega) _ | with_reducible assumption | with_reducible refine Up.trans ?_ (by assumption)))
    have hz_w2 := Up.size hb_w2
    try simp at hz_w2
    go_wp2_with fail
    refine (ref_model_good n _ h).mono ?_
    rintro e w3 ⟨rfl, hb_w3⟩
    have hu_w3 : Up w2 w3 := by (repeat (first | with_reducible exact Up.refl _ | with_reducible refine Up.alloc ?_ _ | with_reducible refine Up.drew ?_ | with_reducible refine Up.drewN ?_ _ | with_reducible refine Up.setCell ?_ (by (try simp) <;> omega) _ | with_reducible assumption | with_reducible refine Up.trans ?_ (by assumption)))
    have hz_w3 := Up.size hb_w3
    try simp at hz_w3
    obtain ⟨bd_w3_0, be_w3_0⟩ := hb_w3.at_ (w2.heap.size) (by (try simp) <;> omega)
    have zb_w3_0 : w2.heap.size < w3.heap.size := by omega
    go_wp2_with fail
    refine (valid_is (model_valid h) _).mono ?_
    rintro e w4 ⟨rfl, hb_w4⟩
    have hu_w4 : Up w3 w4 := by (repeat (first | with_reducible exact Up.refl _ | with_reducible refine Up.alloc ?_ _ | with_reducible refine Up.drew ?_ | with_reducible refine Up.drewN ?_ _ | with_reducible refine Up.setCell ?_ (by (try simp) <;> omega) _ | with_reducible assumption | with_reducible refine Up.trans ?_ (by assumption)))
    have hz_w4 := Up.size hb_w4
    try simp at hz_w4
    obtain ⟨bc_w4_0, bf_w4_0⟩ := hu_w4.at_ (w2.heap.size) (by omega)
    obtain ⟨bd_w4_0, be_w4_0⟩ := hb_w4.at_ (w3.heap.size) (by (try simp) <;> omega)
    have zb_w4_0 : w2.heap.size < w4.heap.size := by omega
    have zb_w4_1 : w3.heap.size < w4.heap.size := by omega
    go_wp2_with fail
    go_ret
    exact ⟨rfl, by (repeat (first | with_reducible exact Up.refl _ | with_reducible refine Up.alloc ?_ _ | with_reducible refine Up.drew ?_ | with_reducible refine Up.drewN ?_ _ | with_reducible refine Up.setCell ?_ (by (try simp) <;> omega) _ | with_reducible assumption | with_reducible refine Up.trans ?_ (by assumption)))⟩
  · go_enter Try.func3, Try.ntmps3
    go_wp2_with fail
    refine (awake04 _).mono ?_
    rintro e w1 ⟨rfl, hb_w1⟩
    have hu_w1 : Up w w1 := by (repeat (first | with_reducible exact Up.refl _ | with_reducible refine Up.alloc ?_ _ | with_reducible refine Up.drew ?_ | with_reducible refine Up.drewN ?_ _ | with_reducible refine Up.setCell ?_ (by (try simp) <;> omega) _ | with_reducible assumption | with_reducible refine Up.trans ?_ (by assumption)))
    have hz_w1 := Up.size hb_w1
    try simp at hz_w1
    go_wp2_with fail
    refine (model_bad n _ h).mono ?_
    rintro e w2 ⟨rfl, hb_w2⟩
    have hu_w2 : Up w1 w2 := by (repeat (first | with_reducible exact Up.refl _ | with_reducible refine Up.alloc ?_ _ | with_reducible refine Up.drew ?_ | with_reducible refine Up.drewN ?_ _ | with_reducible refine Up.setCell ?_ (by (try simp) <;> omega) _ | with_reducible assumption | with_reducible refine Up.trans ?_ (by assumption)))
    have hz_w2 := Up.size hb_w2
    try simp at hz_w2
    go_wp2_with fail
    refine (ref_model_bad n _ h).mono ?_
    rintro e w3 ⟨rfl, hb_w3⟩
    have hu_w3 : Up w2 w3 := by (repeat (first | with_reducible exact Up.refl _ | with_reducible refine Up.alloc ?_ _ | with_reducible refine Up.drew ?_ | with_reducible refine Up.drewN ?_ _ | with_reducible refine Up.setCell ?_ (by (try simp) <;> omega) _ | with_reducible assumption | with_reducible refine Up.trans ?_ (by assumption)))
    have hz_w3 := Up.size hb_w3
    try simp at hz_w3
    obtain ⟨bd_w3_0, be_w3_0⟩ := hb_w3.at_ (w2.heap.size) (by (try simp) <;> omega)
    have zb_w3_0 : w2.heap.size < w3.heap.size := by omega
    go_wp2_with fail
    refine (valid_is (b := false) (by decide) _).mono ?_
    rintro e w4 ⟨rfl, hb_w4⟩
    have hu_w4 : Up w3 w4 := by (repeat (first | with_reducible exact Up.refl _ | with_reducible refine Up.alloc ?_ _ | with_reducible refine Up.drew ?_ | with_reducible refine Up.drewN ?_ _ | with_reducible refine Up.setCell ?_ (by (try simp) <;> omega) _ | with_reducible assumption | with_reducible refine Up.trans ?_ (by assumption)))
    have hz_w4 := Up.size hb_w4
    try simp at hz_w4
    obtain ⟨bc_w4_0, bf_w4_0⟩ := hu_w4.at_ (w2.heap.size) (by omega)
    obtain ⟨bd_w4_0, be_w4_0⟩ := hb_w4.at_ (w3.heap.size) (by (try simp) <;> omega)
    have zb_w4_0 : w2.heap.size < w4.heap.size := by omega
    have zb_w4_1 : w3.heap.size < w4.heap.size := by omega
    go_wp2_with fail
    go_ret
    exact ⟨rfl, by (repeat (first | with_reducible exact Up.refl _ | with_reducible refine Up.alloc ?_ _ | with_reducible refine Up.drew ?_ | with_reducible refine Up.drewN ?_ _ | with_reducible refine Up.setCell ?_ (by (try simp) <;> omega) _ | with_reducible assumption | with_reducible refine Up.trans ?_ (by assumption)))⟩

set_option maxHeartbeats 1600000 in
theorem law_sixes (b : Int) (w : World) (h0 : 0 ≤ b) (h1 : b ≤ 255) :
    Calls Try.prog 6 #[.int .u8 b] w fun e w' => e = .returned (.bool true) ∧ Up w w' := by
  go_enter Try.func6, Try.ntmps6
  go_wp2_with fail
  refine (awake04 _).mono ?_
  rintro e w1 ⟨rfl, hb_w1⟩
  have hu_w1 : Up w w1 := by (repeat (first | with_reducible exact Up.refl _ | with_reducible refine Up.alloc ?_ _ | with_reducible refine Up.drew ?_ | with_reducible refine Up.drewN ?_ _ | with_reducible refine Up.setCell ?_ (by (try simp) <;> omega) _ | with_reducible assumption | with_reducible refine Up.trans ?_ (by assumption)))
  have hz_w1 := Up.size hb_w1
  try simp at hz_w1
  go_wp2_with fail
  go_loop [6] (fun i => ∃ j : Nat, j ≤ 64 ∧ i = .int .i64 (j : Int)) (fun i => 64 - (intOf i).toNat)
  case atStart => exact ⟨0, by omega, rfl⟩
  case round =>
    obtain ⟨j, hj, rfl⟩ := hrel
    have hs := sixOf_bd (j : Int)
    by_cases hlt : j < 64
    · have hu := unsix_six j hlt
      go_wp2_with (first | (go_at_call 24; refine (six_any _ _).mono ?_; rintro e w' ⟨rfl, rfl⟩) | (go_at_call 25; refine (ref_six_any _ _).mono ?_; rintro e w' ⟨rfl, rfl⟩) | (go_at_call 26; refine (unsix_any _ _ hs.1 hs.2).mono ?_; rintro e w' ⟨rfl, rfl⟩))
      go_round
      case rel => exact ⟨j + 1, by omega, by go_num⟩
      case measure => simp [intOf]; omega
    · obtain rfl : j = 64 := by omega
      go_wp2_with (first | (go_at_call 26; refine (unsix_any _ _ h0 h1).mono ?_; rintro e w' ⟨rfl, rfl⟩) | (go_at_call 27; refine (ref_unsix_any _ _ h0 h1).mono ?_; rintro e w' ⟨rfl, rfl⟩))
      go_ret
      exact ⟨rfl, by assumption⟩
end Go.Proofs.Ytejnblncnpfkaaa
