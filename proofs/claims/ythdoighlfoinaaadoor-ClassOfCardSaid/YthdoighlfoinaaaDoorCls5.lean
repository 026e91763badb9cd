/-
  A page or none is picked; awake; the walks of ClassAlone and ClassUses. No condition.
-/
import Derived.Test.YthdoighlfoinaaaDoorCls4
namespace Go.Proofs.YthdoighlfoinaaaDoor
open Go.RowKit Go.Maps
set_option linter.unusedVariables false
set_option linter.unusedSimpArgs false

theorem pv_some (b : Nat) : Value.pointer (some ⟨b, 0, none⟩) = pv (some b) := rfl
theorem pv_none : Value.pointer none = pv none := rfl
theorem ret_pick {a b : Value} {x y : Int} (h : a = b) (h' : x = y) : Ending.returned (.tuple #[a, .int .i64 x]) = .returned (.tuple #[b, .int .i64 y]) := by rw [h, h']
set_option maxRecDepth 100000 in
set_option maxHeartbeats 800000 in
theorem pick02 (n : Int) (hn : 0 ≤ n ∧ n ≤ 255) (w : World) :
    Calls Tryd.prog 6 #[.int .u8 n] w fun e w' => ∃ p k, e = .returned (.tuple #[pv p, .int .i64 k]) ∧ isPage k = true ∧ (∀ b, p = some b → w.heap.size ≤ b) ∧ PgAt w' p k ∧ Up w w' := by
  obtain ⟨m, rfl⟩ : ∃ m : Nat, n = (m : Int) := ⟨n.toNat, by omega⟩
  have h6 : m % 7 = 0 ∨ m % 7 = 1 ∨ m % 7 = 2 ∨ m % 7 = 3 ∨ m % 7 = 4 ∨ m % 7 = 5 ∨ m % 7 = 6 := by omega
  rcases h6 with h | h | h | h | h | h | h
  all_goals
    have h' : (m : Int) % 7 = ((m % 7 : Nat) : Int) := by omega
    rw [h] at h'
    go_enter Tryd.func6, Tryd.ntmps6
    go_wp2_with (first | (go_at_call 18; refine (new_is _ rfl _).mono ?_; rintro e w2 ⟨b, rfl, hb, hp, hu⟩; have hcc : ∀ o, w2.cell? ⟨w.heap.size, o, none⟩ = (w.alloc (.cells #[Value.int .i64 37, .int .i64 273, .int .i64 297, .int .i64 500, .int .i64 1047, .int .i64 1140] _)).cell? ⟨w.heap.size, o, none⟩ := fun o => (hu.at_ w.heap.size (by simp)).1 o; have hci := hcc (m % 7); rw [h] at hci; simp at hci; clear hcc; have hzz : w.heap.size < w2.heap.size := by (have := hu.size; simp at this; omega)))
    try go_region
    try go_wp2
    go_ret2
    first
      | exact ⟨some b, _, rfl, rfl, (fun x hx => by injection hx with hx; subst hx; simp at hb; omega), hp.drew, (((Up.refl w).alloc _).trans hu).drew⟩
      | exact ⟨none, 37, rfl, rfl, (fun x hx => absurd hx (by simp)), rfl, (Up.refl w).alloc _⟩
set_option maxRecDepth 100000 in
set_option maxHeartbeats 1600000 in
theorem awake02 (w : World) : Calls Tryd.prog 5 #[] w fun e w' => e = .returned (.bool true) ∧ Up w w' := by
  have hnot : ∀ (x : Bool) (w : World), (Op.unary .not (.bool x)).run Tryd.prog w = .ok (.bool (!x)) w := fun _ _ => rfl
  have k1 : isPage 37 = true := rfl
  have v1 : clsN ((28 : Nat) : Int) (signN 37 28) = 1 := by decide +kernel
  have v2 : numN ((247 : Nat) : Int) (signN 37 247) = true := by decide +kernel
  have v3 : numN ((193 : Nat) : Int) (signN 37 193) = false := by decide +kernel
  have v4 : shownN ((28 : Nat) : Int) (signN 37 28) = 42 := by decide +kernel
  have d1 : ∀ b w, PgAt w (some b) 37 → Calls Tryd.prog 7 #[.pointer (some ⟨b, 0, none⟩), .int .u8 28] w fun e w' => e = .returned (.int .i64 1) ∧ PgAt w' (some b) 37 ∧ NearP (some b) w w' := fun b w h => by
    have := of_is (some b) 37 k1 28 (by omega) w h
    rw [v1] at this
    exact this
  have d2 : ∀ b w, PgAt w (some b) 37 → Calls Tryd.prog 19 #[.pointer (some ⟨b, 0, none⟩), .int .u8 247] w fun e w' => e = .returned (.bool true) ∧ PgAt w' (some b) 37 ∧ NearP (some b) w w' := fun b w h => by
    have := numeric_is (some b) 37 k1 247 (by omega) w h
    rw [v2] at this
    exact this
  have d3 : ∀ b w, PgAt w (some b) 37 → Calls Tryd.prog 19 #[.pointer (some ⟨b, 0, none⟩), .int .u8 193] w fun e w' => e = .returned (.bool false) ∧ PgAt w' (some b) 37 ∧ NearP (some b) w w' := fun b w h => by
    have := numeric_is (some b) 37 k1 193 (by omega) w h
    rw [v3] at this
    exact this
  have d4 : ∀ b w, PgAt w (some b) 37 → Calls Tryd.prog 20 #[.pointer (some ⟨b, 0, none⟩), .int .u8 28] w fun e w' => e = .returned (.int .i32 42) ∧ PgAt w' (some b) 37 ∧ NearP (some b) w w' := fun b w h => by
    have := shown_is (some b) 37 k1 28 (by omega) w h
    rw [v4] at this
    exact this
  clear v1 v2 v3 v4
  go_enter Tryd.func5, Tryd.ntmps5
  go_wp2_with (first
    | (go_at_call 18; (with_reducible refine (new_is 37 k1 _).mono ?_); rintro e w1 ⟨b, rfl, hb, hp, hu⟩; have hp1 : PgAt w1 (some b) 37 := hp)
    | (go_at_call 7; with_reducible refine (d1 b _ hp1).mono ?_; rintro e w2 ⟨rfl, hp2, hn2⟩)
    | (go_at_call 19; with_reducible refine (d2 b _ hp2).mono ?_; rintro e w3 ⟨rfl, hp3, hn3⟩)
    | (go_at_call 19; with_reducible refine (d3 b _ hp3).mono ?_; rintro e w4 ⟨rfl, hp4, hn4⟩)
    | (go_at_call 20; with_reducible refine (d4 b _ hp4).mono ?_; rintro e w5 ⟨rfl, hp5, hn5⟩))
  go_ret
  exact ⟨rfl, hu.keep (((hn2.trans hn3).trans hn4).trans hn5) (fun i hi => by injection hi with hi; subst hi; exact hb)⟩
theorem shown_seen {c s : Int} (h0 : 0 ≤ c) (hb : 0 ≤ s) : ¬ (shownN c s < 32) ∧ ¬ (127 ≤ shownN c s ∧ shownN c s ≤ 159) := by
  unfold shownN
  split
  · omega
  split
  · omega
  split
  · omega
  split
  · omega
  split
  · omega
  · rename_i h
    unfold hidN at h
    simp only [Bool.or_eq_true, Bool.and_eq_true, decide_eq_true_eq, beq_iff_eq, not_or, not_and] at h
    omega
end Go.Proofs.YthdoighlfoinaaaDoor
