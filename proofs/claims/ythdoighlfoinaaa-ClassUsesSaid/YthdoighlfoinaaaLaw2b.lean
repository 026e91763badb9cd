/-
  The walk of ClassUses. No condition.
-/
import Derived.Test.YthdoighlfoinaaaCls5
namespace Go.Proofs.Ythdoighlfoinaaa
open Go.RowKit Go.Maps
set_option linter.unusedVariables false
set_option linter.unusedSimpArgs false

set_option maxRecDepth 100000 in
set_option maxHeartbeats 3200000 in
theorem law_uses (n : Int) (w : World) (hn0 : 0 ≤ n) (hn1 : n ≤ 255) :
    Calls Try.prog 10 #[.int .u8 n] w fun e w' => e = .returned (.bool true) ∧ Up w w' := by
  have hnot : ∀ (x : Bool) (w : World), (Op.unary .not (.bool x)).run Try.prog w = .ok (.bool (!x)) w := fun _ _ => rfl
  go_enter Try.func10, Try.ntmps10
  go_wp2_with (first
    | (go_at_call 26; refine (awake02 _).mono ?_; rintro e w1 ⟨rfl, hu1⟩)
    | (go_at_call 27; refine (pick02 n ⟨hn0, hn1⟩ _).mono ?_; rintro e w2 ⟨p, k, rfl, hk, hb, hp, hu2⟩))
  have hz : ∀ i, p = some i → w.heap.size ≤ i := fun i hi => by have := hb i hi; have := hu1.size; omega
  have HU := Lib.hid (hu1.trans hu2)
  clear hu1 hu2
  go_loopw [14] (fun q wr => ∃ c : Nat, c ≤ 256 ∧ q = .int .i64 (c : Int) ∧ PgAt wr p k ∧ NearP p w2 wr) (fun q _ => 256 - (intOf q).toNat)
  case atStart => exact ⟨0, by omega, rfl, hp, NearP.refl p w2⟩
  case round =>
    obtain ⟨c, hc, rfl, hp, hn⟩ := hrel
    by_cases hlt : c < 256
    · have c1 := shown_is p k hk c hlt
      have c2 := numeric_is p k hk c hlt
      have c3 := data_is (c : Int)
      have c4 := desig_is p k hk c hlt
      have d1 := rshown_is k hk c hlt
      have d2 := rnumeric_is k hk c hlt
      have d3 := rdata_is c hlt
      have d4 := rdesig_is k hk c hlt
      generalize numN (c : Int) (signN k c) = x at *
      generalize shownN (c : Int) (signN k c) = v at *
      generalize desN (c : Int) (signN k c) = y at *
      generalize dataN (c : Int) = d at *
      have HP := Lib.hid hp
      have HN := Lib.hid hn
      clear hp hn
      go_wp2_with (first
        | (go_at_call 30; with_reducible refine (c3 _).mono ?_; rintro e w5 ⟨rfl, rfl⟩)
        | (go_at_call 34; with_reducible refine (d3 _).mono ?_; rintro e w5 ⟨rfl, rfl⟩)
        | (go_at_call 29; with_reducible refine (c2 _ HP.out).mono ?_; rintro e w3 ⟨rfl, hp3, hn3⟩)
        | (go_at_call 35; with_reducible refine (d2 _).mono ?_; rintro e w5 ⟨rfl, rfl⟩)
        | (go_at_call 28; with_reducible refine (c1 _ hp3).mono ?_; rintro e w4 ⟨rfl, hp4, hn4⟩)
        | (go_at_call 36; with_reducible refine (d1 _).mono ?_; rintro e w5 ⟨rfl, rfl⟩)
        | (go_at_call 37; with_reducible refine (c4 _ hp4).mono ?_; rintro e w6 ⟨rfl, hp6, hn6⟩)
        | (go_at_call 38; with_reducible refine (d4 _).mono ?_; rintro e w5 ⟨rfl, rfl⟩))
      go_roundw
      case rel => exact ⟨c + 1, by omega, by go_num, hp6, ((HN.out.trans hn3).trans hn4).trans hn6⟩
      case measure => simp [intOf]; omega
    · have HN := Lib.hid hn
      clear hn
      go_wp2_with fail
      go_ret
      exact ⟨rfl, HU.out.keep HN.out (fun i hi => hz i hi)⟩
end Go.Proofs.Ythdoighlfoinaaa
