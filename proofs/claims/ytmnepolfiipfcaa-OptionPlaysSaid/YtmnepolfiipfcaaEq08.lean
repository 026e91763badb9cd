/-
  back; slices.Equal over messages and bytes; Quiet of a machine. No condition.
-/
import Derived.Test.YtmnepolfiipfcaaAgreed
import Derived.Deep.DeepMust
namespace Go.Proofs.Ytmnepolfiipfcaa
open Go.RowKit
set_option linter.unusedVariables false
set_option linter.unusedSimpArgs false

theorem info_rm : (Try.prog.info? 67).map (fun i => (i.zero, i.size, i.bytes)) = some (some (.agg #[.int .u8 0, .int .u8 0]), 2, 2) := by kernel_rfl
theorem ms_one (L : List (Int × Int)) : ∀ u ∈ ms L, u.oneCell' = true := by
  intro u hu
  simp only [ms, List.mem_flatMap] at hu
  obtain ⟨p, _, hu⟩ := hu
  simp at hu
  rcases hu with rfl | rfl <;> rfl
set_option maxHeartbeats 1600000 in
/-- of at most one word -/
theorem back_is (A : Option Addr) (n c : Nat) (L : List (Int × Int)) (w : World) (hr : Reads w w.heap.size 2 A n (ms L)) (hn : n = L.length) (h1 : n ≤ 1) :
    Calls Try.prog 27 #[.slice A n c] w fun e w' => ∃ A' c', e = .returned (.slice A' n c') ∧ Reads w' w'.heap.size 2 A' n (ms L) ∧ Up w w' := by
  obtain ⟨i0, hi, hz0, hz1, hz2⟩ := info_parts info_rm
  rcases L with _ | ⟨⟨v, o⟩, _ | ⟨p, L⟩⟩
  · obtain rfl : n = 0 := hn
    go_enter Try.func27, Try.ntmps27
    go_wp2_with fail
    refine wp_loop_rounds 1 ?_
    rw [rounds_succ]
    go_wp2
    go_ret
    exact ⟨none, 0, rfl, reads_two _ _, by (repeat (first | with_reducible exact Up.refl _ | with_reducible refine Up.alloc ?_ _ | with_reducible refine Up.drew ?_ | with_reducible refine Up.drewN ?_ _ | with_reducible refine Up.setCell ?_ (by (try simp) <;> omega) _ | with_reducible assumption | with_reducible refine Up.trans ?_ (by assumption)))⟩
  · obtain rfl : n = 1 := hn
    obtain ⟨b, off, rfl, hb, x1, x2⟩ := word_one hr
    clear hr
    go_enter Try.func27, Try.ntmps27
    go_wp2_with fail
    refine wp_loop_rounds 2 ?_
    rw [rounds_succ]
    have hrr : Reads ((w.alloc (.cells #[.int .u8 v, .int .u8 o] 37)).alloc (.cells #[.int .u8 v, .int .u8 o] 67)) (w.heap.size + 1 + 1) 2 (some ⟨w.heap.size + 1, 0, none⟩) 1 [.int .u8 v, .int .u8 o] := by
      have := reads_at (w.alloc (.cells #[.int .u8 v, .int .u8 o] 37)) (w.heap.size + 1) 2 1 #[.int .u8 v, .int .u8 o] 67 rfl (by simp)
      simpa using this
    have HR := Lib.hid hrr
    clear hrr
    go_wp2_with (at_builtin; go_must (refine wpList_app _ rfl (.tmp 12) (.tmp 14) 62 rfl w.heap.size 67 i0 _ 2 2 Try.underlying62 hi hz0 hz1 hz2 rfl (by decide) none 0 0 [] rfl ⟨rfl, .inl ⟨rfl, rfl⟩⟩ _ (some ⟨w.heap.size + 1, 0, none⟩) 1 1 [.int .u8 v, .int .u8 o] rfl HR.out (ms_one [(v, o)]) (by simp [maxLen]) (by omega) (by simp; omega) ?_); intro A1 c1 w1 hown1 hg1 hle1 hmx1 hbl1; have HO := Lib.hid hown1; have HB := Lib.hid hbl1; clear hown1 hg1 hbl1)
    rw [rounds_succ]
    go_wp2
    go_ret
    refine ⟨A1, c1, rfl, by have := Reads.of_own HO.out; simpa [ms] using this, ?_⟩
    exact (((Up.refl w).alloc _).alloc _).past HB.out
  · simp at hn; omega
set_option maxHeartbeats 1600000 in
/-- alike words, of at most one -/
theorem eqm_yes (A A' : Option Addr) (n c c' : Nat) (L : List (Int × Int)) (w : World) (hr : Reads w w.heap.size 2 A n (ms L)) (hr' : Reads w w.heap.size 2 A' n (ms L)) (hn : n = L.length) (h1 : n ≤ 1) :
    Calls Try.prog 26 #[.slice A n c, .slice A' n c'] w fun e w' => e = .returned (.bool true) ∧ Up w w' := by
  rcases L with _ | ⟨⟨v, o⟩, _ | ⟨p, L⟩⟩
  · obtain rfl : n = 0 := hn
    clear hr hr'
    go_enter Try.func26, Try.ntmps26
    go_wp2_with fail
    refine wp_loop_rounds 1 ?_
    rw [rounds_succ]
    go_wp2
    go_ret
    exact ⟨rfl, by (repeat (first | with_reducible exact Up.refl _ | with_reducible refine Up.alloc ?_ _ | with_reducible refine Up.drew ?_ | with_reducible refine Up.drewN ?_ _ | with_reducible refine Up.setCell ?_ (by (try simp) <;> omega) _ | with_reducible assumption | with_reducible refine Up.trans ?_ (by assumption)))⟩
  · obtain rfl : n = 1 := hn
    obtain ⟨b, off, rfl, hb, x1, x2⟩ := word_one hr
    obtain ⟨b', off', rfl, hb', y1, y2⟩ := word_one hr'
    clear hr hr'
    go_enter Try.func26, Try.ntmps26
    go_wp2_with fail
    refine wp_loop_rounds 2 ?_
    rw [rounds_succ]
    go_wp2_with fail
    refine wp_region_mix (NS := []) [] rfl (by kernel_rfl) (by kernel_rfl) (by simp) (by simp) ?_
    repeat (first
      | (refine mix_skip rfl rfl ?_; simp only [Act.put, List.setIfInBounds_toArray, List.set_cons_succ, List.set_cons_zero])
      | (refine mix_q rfl rfl rfl (by kernel_rfl) rfl rfl rfl ?_
         apply Exists.intro
         refine ⟨fun Wm => ?_, ?_⟩
         · simp only [fin]
           repeat (first | (rintro _ ⟨gm, om, rfl, hgm, hcm⟩) | (intro vm hvm; obtain ⟨gm, om, cm, rfl, h2m, hxm, hgm, hcm, hdm⟩ := rsl_two hvm) | (rintro _ ⟨Am, nm, cm, rfl, hnm, hlm, hmm, hrm⟩; simp only [List.length_cons, List.length_nil, Nat.zero_add, Nat.reduceAdd] at hnm; subst hnm))
           intro K hK
           go_wp2_with (fail)
           refine hK _ _ ?_ ?_ ?_
           · (repeat (first | with_reducible exact Up.refl _ | with_reducible refine Up.alloc ?_ _ | with_reducible refine Up.drew ?_ | with_reducible refine Up.drewN ?_ _ | with_reducible refine Up.setCell ?_ (by (try simp) <;> omega) _ | with_reducible assumption | with_reducible refine Up.trans ?_ (by assumption)))
           · rfl
           · rfl
         simp only [Act.put, List.setIfInBounds_toArray, List.set_cons_succ, List.set_cons_zero]))
    refine mix_nil ?_
    intro w1 hb_w1
    simp only [fin]
    have hu_w1 : Up w w1 := by (repeat (first | with_reducible exact Up.refl _ | with_reducible refine Up.alloc ?_ _ | with_reducible refine Up.drew ?_ | with_reducible refine Up.drewN ?_ _ | with_reducible refine Up.setCell ?_ (by (try simp) <;> omega) _ | with_reducible assumption | with_reducible refine Up.trans ?_ (by assumption)))
    have hz_w1 := Up.size hb_w1
    try simp at hz_w1
    go_wp2_with fail
    rw [rounds_succ]
    go_wp2
    go_ret
    exact ⟨rfl, hb_w1⟩
  · simp at hn; omega
set_option maxHeartbeats 1600000 in
/-- alike bytes -/
theorem eqb_yes (A A' : Option Addr) (n c c' : Nat) (l : List Int) (w : World) (hr : Reads w w.heap.size 1 A n (bs l)) (hr' : Reads w w.heap.size 1 A' n (bs l)) (hn : n ≤ 65536) :
    Calls Try.prog 39 #[.slice A n c, .slice A' n c'] w fun e w' => e = .returned (.bool true) ∧ Up w w' := by
  have hl : Hid (l.length = n) := (by have := hr.1; simpa [bs] using this : l.length = n)
  have HR := Lib.hid hr
  have HR' := Lib.hid hr'
  clear hr hr'
  go_enter Try.func39, Try.ntmps39
  go_wp2_with fail
  go_loopw [5, 13] (fun _ i wr => ∃ j : Nat, j ≤ n ∧ i = .int .i64 (j : Int) ∧ Up w wr) (fun _ i _ => n - (intOf i).toNat)
  case atStart => exact ⟨0, by omega, rfl, Up.refl w⟩
  case round =>
    obtain ⟨j, hj, rfl, hu⟩ := hrel
    by_cases hlt : j < n
    · obtain ⟨b, off, rfl, hb⟩ := HR.out.form (by omega)
      obtain ⟨b', off', rfl, hb'⟩ := HR'.out.form (by omega)
      have x1 := bs_at (HR.out.up hu) j hlt
      have y1 := bs_at (HR'.out.up hu) j hlt
      generalize l.getD j 0 = x at x1 y1
      have hz := hu.size
      have z1 : b < wr.heap.size := by omega
      have z2 : b' < wr.heap.size := by omega
      have t0 : (0 : Int) ≤ (j : Int) := by omega
      have t1 : (j : Int) < (n : Int) := by omega
      go_wp2_with fail
      refine wp_region_mix (NS := []) [] rfl (by kernel_rfl) (by kernel_rfl) (by simp) (by simp) ?_
      repeat (first
        | (refine mix_skip rfl rfl ?_; simp only [Act.put, List.setIfInBounds_toArray, List.set_cons_succ, List.set_cons_zero])
        | (refine mix_q rfl rfl rfl (by kernel_rfl) rfl rfl rfl ?_
           apply Exists.intro
           refine ⟨fun Wm => ?_, ?_⟩
           · simp only [fin]
             repeat (first | (rintro _ ⟨gm, om, rfl, hgm, hcm⟩) | (intro vm hvm; obtain ⟨gm, om, cm, rfl, h2m, hxm, hgm, hcm, hdm⟩ := rsl_two hvm) | (rintro _ ⟨Am, nm, cm, rfl, hnm, hlm, hmm, hrm⟩; simp only [List.length_cons, List.length_nil, Nat.zero_add, Nat.reduceAdd] at hnm; subst hnm))
             intro K hK
             go_wp2_with (fail)
             refine hK _ _ ?_ ?_ ?_
             · (repeat (first | with_reducible exact Up.refl _ | with_reducible refine Up.alloc ?_ _ | with_reducible refine Up.drew ?_ | with_reducible refine Up.drewN ?_ _ | with_reducible refine Up.setCell ?_ (by (try simp) <;> omega) _ | with_reducible assumption | with_reducible refine Up.trans ?_ (by assumption)))
             · rfl
             · rfl
           simp only [Act.put, List.setIfInBounds_toArray, List.set_cons_succ, List.set_cons_zero]))
      refine mix_nil ?_
      intro w1 hb_w1
      simp only [fin]
      have hu_w1 : Up wr w1 := by (repeat (first | with_reducible exact Up.refl _ | with_reducible refine Up.alloc ?_ _ | with_reducible refine Up.drew ?_ | with_reducible refine Up.drewN ?_ _ | with_reducible refine Up.setCell ?_ (by (try simp) <;> omega) _ | with_reducible assumption | with_reducible refine Up.trans ?_ (by assumption)))
      have hz_w1 := Up.size hb_w1
      try simp at hz_w1
      go_wp2_with fail
      go_roundw
      case rel => exact ⟨j + 1, by omega, by go_num, hu.trans hb_w1⟩
      case measure => simp [intOf]; omega
    · obtain rfl : j = n := by omega
      go_wp2
      go_ret
      exact ⟨rfl, hu⟩
end Go.Proofs.Ytmnepolfiipfcaa
