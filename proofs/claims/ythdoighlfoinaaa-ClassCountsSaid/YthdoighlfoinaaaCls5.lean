/-
  A page or none is picked; awake; the walks of ClassAlone and ClassUses. No condition.
-/
import Derived.Test.YthdoighlfoinaaaCls4
namespace Go.Proofs.Ythdoighlfoinaaa
open Go.RowKit Go.Maps
set_option linter.unusedVariables false
set_option linter.unusedSimpArgs false

theorem pv_some (b : Nat) : Value.pointer (some ⟨b, 0, none⟩) = pv (some b) := rfl
theorem pv_none : Value.pointer none = pv none := rfl
theorem ret_pick {a b : Value} {x y : Int} (h : a = b) (h' : x = y) : Ending.returned (.tuple #[a, .int .i64 x]) = .returned (.tuple #[b, .int .i64 y]) := by rw [h, h']
set_option maxRecDepth 100000 in
set_option maxHeartbeats 800000 in
theorem pick02 (n : Int) (hn : 0 ≤ n ∧ n ≤ 255) (w : World) :
    Calls Try.prog 27 #[.int .u8 n] w fun e w' => ∃ p k, e = .returned (.tuple #[pv p, .int .i64 k]) ∧ isPage k = true ∧ (∀ b, p = some b → w.heap.size ≤ b) ∧ PgAt w' p k ∧ Up w w' := by
  obtain ⟨m, rfl⟩ : ∃ m : Nat, n = (m : Int) := ⟨n.toNat, by omega⟩
  have h6 : m % 7 = 0 ∨ m % 7 = 1 ∨ m % 7 = 2 ∨ m % 7 = 3 ∨ m % 7 = 4 ∨ m % 7 = 5 ∨ m % 7 = 6 := by omega
  rcases h6 with h | h | h | h | h | h | h
  all_goals
    have h' : (m : Int) % 7 = ((m % 7 : Nat) : Int) := by omega
    rw [h] at h'
    go_enter Try.func27, Try.ntmps27
    go_wp2_with (first | (go_at_call 43; refine (new_is _ rfl _).mono ?_; rintro e w2 ⟨b, rfl, hb, hp, hu⟩; have hcc : ∀ o, w2.cell? ⟨w.heap.size, o, none⟩ = (w.alloc (.cells #[Value.int .i64 37, .int .i64 273, .int .i64 297, .int .i64 500, .int .i64 1047, .int .i64 1140] _)).cell? ⟨w.heap.size, o, none⟩ := fun o => (hu.at_ w.heap.size (by simp)).1 o; have hci := hcc (m % 7); rw [h] at hci; simp at hci; clear hcc; have hzz : w.heap.size < w2.heap.size := by (have := hu.size; simp at this; omega)))
    try go_region
    try go_wp2
    go_ret2
    first
      | exact ⟨some b, _, rfl, rfl, (fun x hx => by injection hx with hx; subst hx; simp at hb; omega), hp.drew, (((Up.refl w).alloc _).trans hu).drew⟩
      | exact ⟨none, 37, rfl, rfl, (fun x hx => absurd hx (by simp)), rfl, (Up.refl w).alloc _⟩
set_option maxRecDepth 100000 in
set_option maxHeartbeats 1600000 in
theorem awake02 (w : World) : Calls Try.prog 26 #[] w fun e w' => e = .returned (.bool true) ∧ Up w w' := by
  have hnot : ∀ (x : Bool) (w : World), (Op.unary .not (.bool x)).run Try.prog w = .ok (.bool (!x)) w := fun _ _ => rfl
  have k1 : isPage 37 = true := rfl
  have v1 : clsN ((28 : Nat) : Int) (signN 37 28) = 1 := by decide +kernel
  have v2 : numN ((247 : Nat) : Int) (signN 37 247) = true := by decide +kernel
  have v3 : numN ((193 : Nat) : Int) (signN 37 193) = false := by decide +kernel
  have v4 : shownN ((28 : Nat) : Int) (signN 37 28) = 42 := by decide +kernel
  have d1 : ∀ b w, PgAt w (some b) 37 → Calls Try.prog 53 #[.pointer (some ⟨b, 0, none⟩), .int .u8 28] w fun e w' => e = .returned (.int .i64 1) ∧ PgAt w' (some b) 37 ∧ NearP (some b) w w' := fun b w h => by
    have := of_is (some b) 37 k1 28 (by omega) w h
    rw [v1] at this
    exact this
  have d2 : ∀ b w, PgAt w (some b) 37 → Calls Try.prog 29 #[.pointer (some ⟨b, 0, none⟩), .int .u8 247] w fun e w' => e = .returned (.bool true) ∧ PgAt w' (some b) 37 ∧ NearP (some b) w w' := fun b w h => by
    have := numeric_is (some b) 37 k1 247 (by omega) w h
    rw [v2] at this
    exact this
  have d3 : ∀ b w, PgAt w (some b) 37 → Calls Try.prog 29 #[.pointer (some ⟨b, 0, none⟩), .int .u8 193] w fun e w' => e = .returned (.bool false) ∧ PgAt w' (some b) 37 ∧ NearP (some b) w w' := fun b w h => by
    have := numeric_is (some b) 37 k1 193 (by omega) w h
    rw [v3] at this
    exact this
  have d4 : ∀ b w, PgAt w (some b) 37 → Calls Try.prog 28 #[.pointer (some ⟨b, 0, none⟩), .int .u8 28] w fun e w' => e = .returned (.int .i32 42) ∧ PgAt w' (some b) 37 ∧ NearP (some b) w w' := fun b w h => by
    have := shown_is (some b) 37 k1 28 (by omega) w h
    rw [v4] at this
    exact this
  clear v1 v2 v3 v4
  go_enter Try.func26, Try.ntmps26
  go_wp2_with (first
    | (go_at_call 43; (with_reducible refine (new_is 37 k1 _).mono ?_); rintro e w1 ⟨b, rfl, hb, hp, hu⟩; have hp1 : PgAt w1 (some b) 37 := hp)
    | (go_at_call 53; with_reducible refine (d1 b _ hp1).mono ?_; rintro e w2 ⟨rfl, hp2, hn2⟩)
    | (go_at_call 29; with_reducible refine (d2 b _ hp2).mono ?_; rintro e w3 ⟨rfl, hp3, hn3⟩)
    | (go_at_call 29; with_reducible refine (d3 b _ hp3).mono ?_; rintro e w4 ⟨rfl, hp4, hn4⟩)
    | (go_at_call 28; with_reducible refine (d4 b _ hp4).mono ?_; rintro e w5 ⟨rfl, hp5, hn5⟩))
  go_ret
  exact ⟨rfl, hu.keep (((hn2.trans hn3).trans hn4).trans hn5) (fun i hi => by injection hi with hi; subst hi; exact hb)⟩
theorem shown_seen {c s : Int} (h0 : 0 ≤ c) (hb : 0 ≤ s) : ¬ (shownN c s < 32) ∧ ¬ (127 ≤ shownN c s ∧ shownN c s ≤ 159) := by
  unfold shownN
  split
  · omega
  split
  · omega
  split
  · omega
  split
  · omega
  split
  · omega
  · rename_i h
    unfold hidN at h
    simp only [Bool.or_eq_true, Bool.and_eq_true, decide_eq_true_eq, beq_iff_eq, not_or, not_and] at h
    omega
set_option maxRecDepth 100000 in
set_option maxHeartbeats 3200000 in
theorem law_alone (n c : Int) (w : World) (hn0 : 0 ≤ n) (hn1 : n ≤ 255) (hc0 : 0 ≤ c) (hc1 : c ≤ 255) :
    Calls Try.prog 8 #[.int .u8 n, .int .u8 c] w fun e w' => e = .returned (.bool true) ∧ Up w w' := by
  have hnot : ∀ (x : Bool) (w : World), (Op.unary .not (.bool x)).run Try.prog w = .ok (.bool (!x)) w := fun _ _ => rfl
  obtain ⟨m, rfl⟩ : ∃ m : Nat, c = (m : Int) := ⟨c.toNat, by omega⟩
  go_enter Try.func8, Try.ntmps8
  go_wp2_with (first
    | (go_at_call 26; refine (awake02 _).mono ?_; rintro e w1 ⟨rfl, hu1⟩)
    | (go_at_call 27; refine (pick02 n ⟨hn0, hn1⟩ _).mono ?_; rintro e w2 ⟨p, k, rfl, hk, hb, hp, hu2⟩))
  have c1 := shown_is p k hk m (by omega) _ hp
  have c2 := numeric_is p k hk m (by omega)
  have c3 := data_is (m : Int)
  have hs := sign_bd hk (c := m) (by omega)
  obtain ⟨hv1, hv2⟩ := shown_seen hc0 hs.1
  have hz : ∀ i, p = some i → w.heap.size ≤ i := fun i hi => by have := hb i hi; have := hu1.size; omega
  have hnn : numN (m : Int) (signN k m) = ((m : Int) == 28 || (dataN m && numSig (signN k m))) := rfl
  have HU := Lib.hid (hu1.trans hu2)
  clear hu1 hu2
  generalize numN (m : Int) (signN k m) = x at *
  generalize shownN (m : Int) (signN k m) = v at *
  generalize numSig (signN k m) = y at *
  generalize dataN (m : Int) = d at *
  have hv2' : 127 ≤ v → ¬ (v ≤ 159) := fun h h' => hv2 ⟨h, h'⟩
  have e1 : decide (v < 32) = false := by simp only [decide_eq_false_iff_not]; exact hv1
  clear hv2
  cases e2 : decide (127 ≤ v) <;> cases e3 : decide (v ≤ 159) <;> cases e0 : ((m : Int) == 28) <;> cases d <;> cases y
  all_goals
    have h2 := e2
    have h3 := e3
    simp only [decide_eq_true_eq, decide_eq_false_iff_not] at h2 h3
  all_goals first | (exfalso; exact hv2' h2 h3) | skip
  all_goals
    rw [e0] at hnn
    replace hnn : x = _ := hnn
    subst hnn
    clear hv2'
    try simp only [Bool.or_true, Bool.true_or, Bool.or_false, Bool.false_or, Bool.and_true, Bool.and_false, Bool.true_and, Bool.false_and, Bool.or_self, Bool.and_self] at c2
    go_wp2_with (first
      | (go_at_call 28; with_reducible refine c1.mono ?_; rintro e w3 ⟨rfl, hp3, hn3⟩)
      | (go_at_call 29; with_reducible refine (c2 _ hp3).mono ?_; rintro e w4 ⟨rfl, hp4, hn4⟩)
      | (go_at_call 30; with_reducible refine (c3 _).mono ?_; rintro e w5 ⟨rfl, rfl⟩))
    go_ret
    exact ⟨rfl, HU.out.keep (hn3.trans hn4) hz⟩
end Go.Proofs.Ythdoighlfoinaaa
