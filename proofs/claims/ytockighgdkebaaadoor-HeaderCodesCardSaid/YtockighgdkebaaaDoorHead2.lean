/-
  What bytes.Clone, header's Parse and the reference's Parse compute. No condition but the slice's own reach (lists of at most 65536 bytes).
-/
import Derived.Test.YtockighgdkebaaaDoorHead1
import Derived.BigRegion
import Derived.RegionTactic
import Derived.Deep.RegionHeld3
namespace Go.Proofs.YtockighgdkebaaaDoor
open Go.RowKit
set_option linter.unusedVariables false
set_option linter.unusedSimpArgs false

theorem or16 (a b : Int) (h0 : 0 ≤ a) (h1 : a ≤ 255) (h2 : 0 ≤ b) (h3 : b ≤ 255) : bits .or .u16 (a * 256) b = 256 * a + b := by
  rw [u16_or _ _ (by omega) (by omega) h2 (by omega), nat_join 8 _ _ (by omega) (by omega)]
  omega

set_option maxHeartbeats 400000 in
theorem clone_any (A : Option Addr) (n c : Nat) (l : List Int) (w : World) (hr : Reads w w.heap.size 1 A n (bs l)) (hn : n ≤ 140737488355328) :
    Calls Tryd.prog 27 #[.slice A n c] w fun e w' => ∃ A' c', e = .returned (.slice A' n c') ∧ w'.ownsRow w.heap.size 5 1 (.slice A' n c') n (bs l) ∧ n ≤ c' ∧ c' ≤ maxLen ∧ Up w w' := by
  obtain ⟨i0, hi, hz0, hz1, hz2⟩ := info_parts info_u8
  cases A with
  | none =>
    have h0 : n = 0 := by
      rcases Nat.eq_zero_or_pos n with h0 | h0
      · exact h0
      · obtain ⟨_, _, h, _⟩ := hr.2 h0
        cases h
    subst h0
    have hl : bs l = [] := List.eq_nil_of_length_eq_zero (by simpa using hr.1)
    rw [hl]
    have hnil := Lib.run_eql_slice_nil (P := Tryd.prog) w 26 5 none 0 c 0 0 Tryd.underlying26
    go_enter Tryd.func27, Tryd.ntmps27
    go_wp2
    go_ret
    exact ⟨none, 0, rfl, World.ownsRow_nil _ _ _ _, Nat.le_refl _, by simp [maxLen], Up.refl _⟩
  | some ad =>
    have hnil := Lib.run_eql_slice_nil (P := Tryd.prog) w 26 5 (some ad) n c 0 0 Tryd.underlying26
    go_enter Tryd.func27, Tryd.ntmps27
    go_wp2_with (at_builtin; refine wpList_app _ rfl (.tmp 5) (.tmp 6) 26 rfl w.heap.size 5 i0 _ 1 1 Tryd.underlying26 hi hz0 hz1 hz2 rfl (by decide) _ 0 0 [] rfl (World.ownsRow_lit w #[] 0 (Nat.le_refl _) (by simp [maxLen]) rfl) w.heap.size (some ad) n c (bs l) rfl (hr.alloc (Nat.le_refl _) _) (one_u8 l) (by simp [maxLen]; omega) (by omega) (by simp) ?_; intro A1 c1 w1 hown1 hg1 hle1 hmx1 hbl1; simp only [Nat.zero_add, List.nil_append] at hown1 hle1)
    go_ret
    exact ⟨A1, c1, rfl, hown1, hle1, hmx1, ((Up.refl _).alloc _).past hbl1⟩

set_option maxHeartbeats 400000 in
theorem hparse_short (A : Option Addr) (n c : Nat) (w : World) (hn : n < 5) :
    Calls Tryd.prog 12 #[.slice A n c] w fun e w' => e = .returned (.tuple #[.agg #[.int .u8 0, .int .u8 0, .int .u8 0, .int .u16 0], .slice none 0 0, .int .i64 2]) ∧ Up w w' := by
  go_enter Tryd.func12, Tryd.ntmps12
  go_wp2
  exact bodyPost_ret (v := _) (by simp [results, Tryd.results12, go_sem, *]) rfl ⟨rfl, by (repeat (first | with_reducible exact Up.refl _ | with_reducible refine Up.alloc ?_ _ | with_reducible refine Up.drew ?_ | with_reducible refine Up.drewN ?_ _ | with_reducible refine Up.setCell ?_ (by (try simp) <;> omega) _ | with_reducible assumption | with_reducible refine Up.trans ?_ (by assumption)))⟩
set_option maxHeartbeats 400000 in
theorem ref_hparse_short (A : Option Addr) (n c : Nat) (w : World) (hn : n < 5) :
    Calls Tryd.prog 17 #[.slice A n c] w fun e w' => e = .returned (.tuple #[.agg #[.int .u8 0, .int .u8 0, .int .u8 0, .int .u16 0], .slice none 0 0, .int .i64 2]) ∧ Up w w' := by
  go_enter Tryd.func17, Tryd.ntmps17
  go_wp2
  exact bodyPost_ret (v := _) (by simp [results, Tryd.results17, go_sem, *]) rfl ⟨rfl, by (repeat (first | with_reducible exact Up.refl _ | with_reducible refine Up.alloc ?_ _ | with_reducible refine Up.drew ?_ | with_reducible refine Up.drewN ?_ _ | with_reducible refine Up.setCell ?_ (by (try simp) <;> omega) _ | with_reducible assumption | with_reducible refine Up.trans ?_ (by assumption)))⟩

/-- the five cells in front -/
theorem five {w : World} {n b off : Nat} {l0 l1 l2 l3 l4 : Int} {l : List Int} (hr : Reads w w.heap.size 1 (some ⟨b, off, none⟩) n (bs (l0 :: l1 :: l2 :: l3 :: l4 :: l))) :
    b < w.heap.size ∧ w.cell? ⟨b, off, none⟩ = some (.int .u8 l0) ∧ w.cell? ⟨b, off + 1, none⟩ = some (.int .u8 l1) ∧ w.cell? ⟨b, off + 2, none⟩ = some (.int .u8 l2) ∧ w.cell? ⟨b, off + 3, none⟩ = some (.int .u8 l3) ∧ w.cell? ⟨b, off + 4, none⟩ = some (.int .u8 l4) := by
  have h1 := hr.1
  simp [bs] at h1
  obtain ⟨b', off', e, hb, hc⟩ := hr.2 (by omega)
  injection e with e
  injection e with e1 e2 _
  subst e1; subst e2
  exact ⟨hb, hc 0 _ rfl, hc 1 _ rfl, hc 2 _ rfl, hc 3 _ rfl, hc 4 _ rfl⟩

set_option maxHeartbeats 1600000 in
theorem hparse_bad (A : Option Addr) (n c : Nat) (l0 l1 l2 l3 l4 : Int) (l : List Int) (w : World) (hr : Reads w w.heap.size 1 A n (bs (l0 :: l1 :: l2 :: l3 :: l4 :: l))) (hw : ∀ x ∈ l0 :: l1 :: l2 :: l3 :: l4 :: l, 0 ≤ x ∧ x ≤ 255) (hn : n ≤ 65536) (hg : rightH l0 l2 = false) :
    Calls Tryd.prog 12 #[.slice A n c] w fun e w' => e = .returned (.tuple #[.agg #[.int .u8 0, .int .u8 0, .int .u8 0, .int .u16 0], .slice none 0 0, .int .i64 1]) ∧ Up w w' := by
  have hlen : l.length + 5 = n := by have := hr.1; simp [bs] at this; omega
  obtain ⟨b, off, rfl, _⟩ := hr.form (by omega)
  obtain ⟨hb, k0, k1, k2, k3, k4⟩ := five hr
  have x0 := hw l0 (by simp)
  have x2 := hw l2 (by simp)
  have x3 := hw l3 (by simp)
  have x4 := hw l4 (by simp)
  have hor := or16 l3 l4 x3.1 x3.2 x4.1 x4.2
  have q0 : (0 : Int) < (n : Int) := by omega
  have q1 : (1 : Int) < (n : Int) := by omega
  have q2 : (2 : Int) < (n : Int) := by omega
  have q3 : (3 : Int) < (n : Int) := by omega
  have q4 : (4 : Int) < (n : Int) := by omega
  have q5 : (5 : Int) ≤ (n : Int) := by omega
  clear hlen
  go_enter Tryd.func12, Tryd.ntmps12
  go_wp2
  go_region
  go_wp2_with fail
  refine (right_is hg _ _ _ (by omega) (by omega) (by omega) (by omega)).mono ?_
  rintro e w1 ⟨rfl, hu⟩
  obtain ⟨bc, bf⟩ := hu.at_ w.heap.size (by (try simp) <;> omega)
  go_wp2
  exact bodyPost_ret (v := _) (by simp [results, Tryd.results12, go_sem, *]) rfl ⟨rfl, by (repeat (first | with_reducible exact Up.refl _ | with_reducible refine Up.alloc ?_ _ | with_reducible refine Up.drew ?_ | with_reducible refine Up.drewN ?_ _ | with_reducible refine Up.setCell ?_ (by (try simp) <;> omega) _ | with_reducible assumption | with_reducible refine Up.trans ?_ (by assumption)))⟩

set_option maxHeartbeats 1600000 in
theorem hparse_good (A : Option Addr) (n c : Nat) (l0 l1 l2 l3 l4 : Int) (l : List Int) (w : World) (hr : Reads w w.heap.size 1 A n (bs (l0 :: l1 :: l2 :: l3 :: l4 :: l))) (hw : ∀ x ∈ l0 :: l1 :: l2 :: l3 :: l4 :: l, 0 ≤ x ∧ x ≤ 255) (hn : n ≤ 65536) (hnc : n ≤ c) (hcm : c ≤ maxLen) (hg : rightH l0 l2 = true) :
    Calls Tryd.prog 12 #[.slice A n c] w fun e w' => ∃ A' k, e = .returned (.tuple #[.agg #[.int .u8 l0, .int .u8 l1, .int .u8 l2, .int .u16 (256 * l3 + l4)], .slice A' (n - 5) k, .int .i64 0]) ∧
      w'.ownsRow w.heap.size 5 1 (.slice A' (n - 5) k) (n - 5) (bs l) ∧ n - 5 ≤ k ∧ k ≤ maxLen ∧ Up w w' := by
  have hlen : l.length + 5 = n := by have := hr.1; simp [bs] at this; omega
  obtain ⟨b, off, rfl, _⟩ := hr.form (by omega)
  obtain ⟨hb, k0, k1, k2, k3, k4⟩ := five hr
  have x0 := hw l0 (by simp)
  have x2 := hw l2 (by simp)
  have x3 := hw l3 (by simp)
  have x4 := hw l4 (by simp)
  have hor := or16 l3 l4 x3.1 x3.2 x4.1 x4.2
  have q0 : (0 : Int) < (n : Int) := by omega
  have q1 : (1 : Int) < (n : Int) := by omega
  have q2 : (2 : Int) < (n : Int) := by omega
  have q3 : (3 : Int) < (n : Int) := by omega
  have q4 : (4 : Int) < (n : Int) := by omega
  have q5 : (5 : Int) ≤ (n : Int) := by omega
  have q6 : c ≤ 9223372036854775807 := by simpa [maxLen] using hcm
  have hcut := hr.cut (k := 5) (cap := c) (by omega) hnc
  have hn5 : n - 5 ≤ 140737488355328 := by omega
  clear hlen
  by_cases hc5 : c = 5
  · obtain rfl : n = 5 := by omega
    obtain rfl : l = [] := by
      have := hr.1
      simp [bs] at this
      exact this
    subst hc5
    clear hcut
    go_enter Tryd.func12, Tryd.ntmps12
    go_wp2
    go_region
    go_wp2_with fail
    refine (right_is hg _ _ _ (by omega) (by omega) (by omega) (by omega)).mono ?_
    rintro e w1 ⟨rfl, hu⟩
    obtain ⟨bc, bf⟩ := hu.at_ w.heap.size (by (try simp) <;> omega)
    obtain ⟨bd, bg⟩ := hu.at_ (w.heap.size + 1) (by (try simp) <;> omega)
    have hz := hu.size
    simp at hz
    go_wp2_with fail
    go_region_held3 (fun w' => w'.cell? ⟨w.heap.size + 1, 0, none⟩ = some (.int .u8 l0) ∧ w'.cell? ⟨w.heap.size + 1, 1, none⟩ = some (.int .u8 l1) ∧ w'.cell? ⟨w.heap.size + 1, 2, none⟩ = some (.int .u8 l2) ∧ w'.cell? ⟨w.heap.size + 1, 3, none⟩ = some (.int .u16 (256 * l3 + l4))) (go_keep)
      (first | (go_at_call 27; refine (clone_any _ _ _ [] _ (⟨rfl, fun h => absurd h (by omega)⟩) (by omega)).mono ?_; rintro e w2 ⟨A2, c2, rfl, ho2, hle2, hmx2, hu2⟩; obtain ⟨cc, cf⟩ := hu2.at_ (w.heap.size + 1) (by (try simp) <;> omega); obtain ⟨ce, cg⟩ := hu2.at_ w.heap.size (by (try simp) <;> omega)))
    go_wp2
    have hlt : w.heap.size < w1.drew.heap.size := by show w.heap.size < w1.heap.size; omega
    exact bodyPost_ret (v := _) (by simp [results, Tryd.results12, go_sem, *]) rfl ⟨A2, c2, rfl, own_base (own_far (own_far (own_far (own_far ho2 hlt _) hlt _) hlt _) hlt _) (by omega), hle2, hmx2, by (repeat (first | with_reducible exact Up.refl _ | with_reducible refine Up.alloc ?_ _ | with_reducible refine Up.drew ?_ | with_reducible refine Up.drewN ?_ _ | with_reducible refine Up.setCell ?_ (by (try simp) <;> omega) _ | with_reducible assumption | with_reducible refine Up.trans ?_ (by assumption)))⟩
  · rw [if_neg hc5] at hcut
    have hcut' : Reads w w.heap.size 1 (some ⟨b, off + 5, none⟩) (n - 5) (bs l) := by simpa [Addr.add, bs] using hcut
    clear hcut
    go_enter Tryd.func12, Tryd.ntmps12
    go_wp2
    go_region
    go_wp2_with fail
    refine (right_is hg _ _ _ (by omega) (by omega) (by omega) (by omega)).mono ?_
    rintro e w1 ⟨rfl, hu⟩
    obtain ⟨bc, bf⟩ := hu.at_ w.heap.size (by (try simp) <;> omega)
    obtain ⟨bd, bg⟩ := hu.at_ (w.heap.size + 1) (by (try simp) <;> omega)
    have hz := hu.size
    simp at hz
    go_wp2_with fail
    go_region_held3 (fun w' => w'.cell? ⟨w.heap.size + 1, 0, none⟩ = some (.int .u8 l0) ∧ w'.cell? ⟨w.heap.size + 1, 1, none⟩ = some (.int .u8 l1) ∧ w'.cell? ⟨w.heap.size + 1, 2, none⟩ = some (.int .u8 l2) ∧ w'.cell? ⟨w.heap.size + 1, 3, none⟩ = some (.int .u16 (256 * l3 + l4))) (go_keep)
      (first | (go_at_call 27; refine (clone_any _ _ _ l _ (hcut'.up (by (repeat (first | with_reducible exact Up.refl _ | with_reducible refine Up.alloc ?_ _ | with_reducible refine Up.drew ?_ | with_reducible refine Up.drewN ?_ _ | with_reducible refine Up.setCell ?_ (by (try simp) <;> omega) _ | with_reducible assumption | with_reducible refine Up.trans ?_ (by assumption))))) hn5).mono ?_; rintro e w2 ⟨A2, c2, rfl, ho2, hle2, hmx2, hu2⟩; obtain ⟨cc, cf⟩ := hu2.at_ (w.heap.size + 1) (by (try simp) <;> omega); obtain ⟨ce, cg⟩ := hu2.at_ w.heap.size (by (try simp) <;> omega)))
    go_wp2
    have hlt : w.heap.size < w1.drew.heap.size := by show w.heap.size < w1.heap.size; omega
    exact bodyPost_ret (v := _) (by simp [results, Tryd.results12, go_sem, *]) rfl ⟨A2, c2, rfl, own_base (own_far (own_far (own_far (own_far ho2 hlt _) hlt _) hlt _) hlt _) (by omega), hle2, hmx2, by (repeat (first | with_reducible exact Up.refl _ | with_reducible refine Up.alloc ?_ _ | with_reducible refine Up.drew ?_ | with_reducible refine Up.drewN ?_ _ | with_reducible refine Up.setCell ?_ (by (try simp) <;> omega) _ | with_reducible assumption | with_reducible refine Up.trans ?_ (by assumption)))⟩

set_option maxHeartbeats 1600000 in
theorem ref_hparse_bad (A : Option Addr) (n c : Nat) (l0 l1 l2 l3 l4 : Int) (l : List Int) (w : World) (hr : Reads w w.heap.size 1 A n (bs (l0 :: l1 :: l2 :: l3 :: l4 :: l))) (hw : ∀ x ∈ l0 :: l1 :: l2 :: l3 :: l4 :: l, 0 ≤ x ∧ x ≤ 255) (hn : n ≤ 65536) (hg : rightH l0 l2 = false) :
    Calls Tryd.prog 17 #[.slice A n c] w fun e w' => e = .returned (.tuple #[.agg #[.int .u8 0, .int .u8 0, .int .u8 0, .int .u16 0], .slice none 0 0, .int .i64 1]) ∧ Up w w' := by
  have hlen : l.length + 5 = n := by have := hr.1; simp [bs] at this; omega
  obtain ⟨b, off, rfl, _⟩ := hr.form (by omega)
  obtain ⟨hb, k0, k1, k2, k3, k4⟩ := five hr
  have x0 := hw l0 (by simp)
  have x2 := hw l2 (by simp)
  have x3 := hw l3 (by simp)
  have x4 := hw l4 (by simp)
  have hor1 : IntKind.u16.wrap (256 * l3) = 256 * l3 := IntWalk.u16_in _ (by omega)
  have hor2 : IntKind.u16.wrap (256 * l3 + l4) = 256 * l3 + l4 := IntWalk.u16_in _ (by omega)
  have q0 : (0 : Int) < (n : Int) := by omega
  have q1 : (1 : Int) < (n : Int) := by omega
  have q2 : (2 : Int) < (n : Int) := by omega
  have q3 : (3 : Int) < (n : Int) := by omega
  have q4 : (4 : Int) < (n : Int) := by omega
  have q5 : (5 : Int) ≤ (n : Int) := by omega
  clear hlen
  go_enter Tryd.func17, Tryd.ntmps17
  go_wp2
  go_region
  go_wp2_with fail
  refine (ref_hbytes_bad _ _ _ _ _ (by omega) (by omega) (by omega) (by omega) hg).mono ?_
  rintro e w1 ⟨rfl, hu⟩
  obtain ⟨bc, bf⟩ := hu.at_ w.heap.size (by (try simp) <;> omega)
  go_wp2
  exact bodyPost_ret (v := _) (by simp [results, Tryd.results17, go_sem, *]) rfl ⟨rfl, by (repeat (first | with_reducible exact Up.refl _ | with_reducible refine Up.alloc ?_ _ | with_reducible refine Up.drew ?_ | with_reducible refine Up.drewN ?_ _ | with_reducible refine Up.setCell ?_ (by (try simp) <;> omega) _ | with_reducible assumption | with_reducible refine Up.trans ?_ (by assumption)))⟩

set_option maxHeartbeats 1600000 in
theorem ref_hparse_good (A : Option Addr) (n c : Nat) (l0 l1 l2 l3 l4 : Int) (l : List Int) (w : World) (hr : Reads w w.heap.size 1 A n (bs (l0 :: l1 :: l2 :: l3 :: l4 :: l))) (hw : ∀ x ∈ l0 :: l1 :: l2 :: l3 :: l4 :: l, 0 ≤ x ∧ x ≤ 255) (hn : n ≤ 65536) (hnc : n ≤ c) (hcm : c ≤ maxLen) (hg : rightH l0 l2 = true) :
    Calls Tryd.prog 17 #[.slice A n c] w fun e w' => ∃ A' k, e = .returned (.tuple #[.agg #[.int .u8 l0, .int .u8 l1, .int .u8 l2, .int .u16 (256 * l3 + l4)], .slice A' (n - 5) k, .int .i64 0]) ∧
      w'.ownsRow w.heap.size 5 1 (.slice A' (n - 5) k) (n - 5) (bs l) ∧ n - 5 ≤ k ∧ k ≤ maxLen ∧ Up w w' := by
  have hlen : l.length + 5 = n := by have := hr.1; simp [bs] at this; omega
  obtain ⟨b, off, rfl, _⟩ := hr.form (by omega)
  obtain ⟨hb, k0, k1, k2, k3, k4⟩ := five hr
  have x0 := hw l0 (by simp)
  have x2 := hw l2 (by simp)
  have x3 := hw l3 (by simp)
  have x4 := hw l4 (by simp)
  have hor1 : IntKind.u16.wrap (256 * l3) = 256 * l3 := IntWalk.u16_in _ (by omega)
  have hor2 : IntKind.u16.wrap (256 * l3 + l4) = 256 * l3 + l4 := IntWalk.u16_in _ (by omega)
  have q0 : (0 : Int) < (n : Int) := by omega
  have q1 : (1 : Int) < (n : Int) := by omega
  have q2 : (2 : Int) < (n : Int) := by omega
  have q3 : (3 : Int) < (n : Int) := by omega
  have q4 : (4 : Int) < (n : Int) := by omega
  have q5 : (5 : Int) ≤ (n : Int) := by omega
  have q6 : c ≤ 9223372036854775807 := by simpa [maxLen] using hcm
  have hcut := hr.cut (k := 5) (cap := c) (by omega) hnc
  have hn5 : n - 5 ≤ 140737488355328 := by omega
  clear hlen
  by_cases hc5 : c = 5
  · obtain rfl : n = 5 := by omega
    obtain rfl : l = [] := by
      have := hr.1
      simp [bs] at this
      exact this
    subst hc5
    clear hcut
    go_enter Tryd.func17, Tryd.ntmps17
    go_wp2
    go_region
    go_wp2_with fail
    refine (ref_hbytes_good _ _ _ _ _ (by omega) (by omega) (by omega) (by omega) (by omega) (by omega) hg).mono ?_
    rintro e w1 ⟨A1, c1, rfl, hm, hu⟩
    obtain ⟨bc, bf⟩ := hu.at_ w.heap.size (by (try simp) <;> omega)
    obtain ⟨bd, bg⟩ := hu.at_ (w.heap.size + 1) (by (try simp) <;> omega)
    have hz := hu.size
    simp at hz
    go_wp2_with fail
    go_region_held3 (fun w' => w'.cell? ⟨w.heap.size + 1, 0, none⟩ = some (.int .u8 l0) ∧ w'.cell? ⟨w.heap.size + 1, 1, none⟩ = some (.int .u8 l1) ∧ w'.cell? ⟨w.heap.size + 1, 2, none⟩ = some (.int .u8 l2) ∧ w'.cell? ⟨w.heap.size + 1, 3, none⟩ = some (.int .u16 (256 * l3 + l4))) (go_keep)
      (first | (go_at_call 16; refine (copy_any _ _ _ [] _ (⟨rfl, fun h => absurd h (by omega)⟩) (by omega)).mono ?_; rintro e w2 ⟨A2, c2, rfl, ho2, hle2, hmx2, hu2⟩; obtain ⟨cc, cf⟩ := hu2.at_ (w.heap.size + 1) (by (try simp) <;> omega); obtain ⟨ce, cg⟩ := hu2.at_ w.heap.size (by (try simp) <;> omega)))
    go_wp2
    have hlt : w.heap.size < w1.drew.heap.size := by show w.heap.size < w1.heap.size; omega
    exact bodyPost_ret (v := _) (by simp [results, Tryd.results17, go_sem, *]) rfl ⟨A2, c2, rfl, own_base (own_far (own_far (own_far (own_far ho2 hlt _) hlt _) hlt _) hlt _) (by omega), hle2, hmx2, by (repeat (first | with_reducible exact Up.refl _ | with_reducible refine Up.alloc ?_ _ | with_reducible refine Up.drew ?_ | with_reducible refine Up.drewN ?_ _ | with_reducible refine Up.setCell ?_ (by (try simp) <;> omega) _ | with_reducible assumption | with_reducible refine Up.trans ?_ (by assumption)))⟩
  · rw [if_neg hc5] at hcut
    have hcut' : Reads w w.heap.size 1 (some ⟨b, off + 5, none⟩) (n - 5) (bs l) := by simpa [Addr.add, bs] using hcut
    clear hcut
    go_enter Tryd.func17, Tryd.ntmps17
    go_wp2
    go_region
    go_wp2_with fail
    refine (ref_hbytes_good _ _ _ _ _ (by omega) (by omega) (by omega) (by omega) (by omega) (by omega) hg).mono ?_
    rintro e w1 ⟨A1, c1, rfl, hm, hu⟩
    obtain ⟨bc, bf⟩ := hu.at_ w.heap.size (by (try simp) <;> omega)
    obtain ⟨bd, bg⟩ := hu.at_ (w.heap.size + 1) (by (try simp) <;> omega)
    have hz := hu.size
    simp at hz
    go_wp2_with fail
    go_region_held3 (fun w' => w'.cell? ⟨w.heap.size + 1, 0, none⟩ = some (.int .u8 l0) ∧ w'.cell? ⟨w.heap.size + 1, 1, none⟩ = some (.int .u8 l1) ∧ w'.cell? ⟨w.heap.size + 1, 2, none⟩ = some (.int .u8 l2) ∧ w'.cell? ⟨w.heap.size + 1, 3, none⟩ = some (.int .u16 (256 * l3 + l4))) (go_keep)
      (first | (go_at_call 16; refine (copy_any _ _ _ l _ (hcut'.up (by (repeat (first | with_reducible exact Up.refl _ | with_reducible refine Up.alloc ?_ _ | with_reducible refine Up.drew ?_ | with_reducible refine Up.drewN ?_ _ | with_reducible refine Up.setCell ?_ (by (try simp) <;> omega) _ | with_reducible assumption | with_reducible refine Up.trans ?_ (by assumption))))) hn5).mono ?_; rintro e w2 ⟨A2, c2, rfl, ho2, hle2, hmx2, hu2⟩; obtain ⟨cc, cf⟩ := hu2.at_ (w.heap.size + 1) (by (try simp) <;> omega); obtain ⟨ce, cg⟩ := hu2.at_ w.heap.size (by (try simp) <;> omega)))
    go_wp2
    have hlt : w.heap.size < w1.drew.heap.size := by show w.heap.size < w1.heap.size; omega
    exact bodyPost_ret (v := _) (by simp [results, Tryd.results17, go_sem, *]) rfl ⟨A2, c2, rfl, own_base (own_far (own_far (own_far (own_far ho2 hlt _) hlt _) hlt _) hlt _) (by omega), hle2, hmx2, by (repeat (first | with_reducible exact Up.refl _ | with_reducible refine Up.alloc ?_ _ | with_reducible refine Up.drew ?_ | with_reducible refine Up.drewN ?_ _ | with_reducible refine Up.setCell ?_ (by (try simp) <;> omega) _ | with_reducible assumption | with_reducible refine Up.trans ?_ (by assumption)))⟩
end Go.Proofs.YtockighgdkebaaaDoor
