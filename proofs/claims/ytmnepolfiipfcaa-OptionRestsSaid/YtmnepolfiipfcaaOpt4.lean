/-
  What option's Ask does at a machine. No condition.
-/
import Derived.Test.YtmnepolfiipfcaaOpt3
namespace Go.Proofs.Ytmnepolfiipfcaa
open Go.RowKit
set_option linter.unusedVariables false
set_option linter.unusedSimpArgs false

theorem askOnW_in (s : Int) : askOnW s = 0 ∨ askOnW s = 1 ∨ askOnW s = 2 := by
  unfold askOnW; split <;> simp
theorem askOffW_in (s : Int) : askOffW s = 0 ∨ askOffW s = 1 ∨ askOffW s = 2 := by
  unfold askOffW; split <;> simp
/-- what asking leaves: the words and no error, or none and the error -/
def AskPost (b i k : Nat) (S : Nat → Nat → Int) (G : Nat → Nat → Bool) (nx wd : Int) (ok : Bool) (w : World) (e : Ending) (w' : World) : Prop :=
  (∃ A n c, e = .returned (.tuple #[.slice A n c, .int .i64 (if ok then 0 else 6)]) ∧ n = (if ok then sayL i wd k else []).length ∧ Reads w' w'.heap.size 2 A n (ms (if ok then sayL i wd k else [])) ∧ ∀ p, A = some p → w.heap.size ≤ p.block) ∧ MAt w' b (fun i' o' => if i' = i ∧ o' = k then nx else S i' o') G ∧ Near b w w'
set_option maxRecDepth 100000 in
set_option maxHeartbeats 1600000 in
theorem ask_askOn0 (b k : Nat) (S : Nat → Nat → Int) (G : Nat → Nat → Bool) (w : World) (hm : MAt w b S G) (hb : b < w.heap.size) (hk : k < 256) :
    Calls Try.prog 14 #[.pointer (some ⟨b, 0, none⟩), .int .i64 0, .int .u8 (k : Int), .bool true] w (AskPost b 0 k S G (askOnN (S 0 k)) (askOnW (S 0 k)) (askOnK (S 0 k)) w) := by
  obtain ⟨⟨q1, q2⟩, q3, q4⟩ := hm 0 k (by omega) hk
  have hk' : (k : Int) < 256 := by omega
  have hset := hm.setS 0 k (by omega) hk (askOnN (S 0 k))
  simp only [Nat.mul_zero, Nat.zero_add] at q1 q2 q3 q4 hset
  have HM := Lib.hid hset
  clear hm hset
  cases hok : askOnK (S 0 k)
  · go_enter Try.func14, Try.ntmps14
    go_wp2_with fail
    go_region_with (go_at_call 33; refine (askOn_is _ _ _ _ _ hk (by simpa using q1)).mono ?_; rintro e w' ⟨rfl, rfl⟩)
    go_wp2_with fail
    go_ret2
    exact ⟨⟨none, 0, 0, rfl, rfl, reads_two _ _, (fun p h => by cases h)⟩, HM.out, Near.set _ _ _ _⟩
  · go_enter Try.func14, Try.ntmps14
    go_wp2_with fail
    go_region_with (go_at_call 33; refine (askOn_is _ _ _ _ _ hk (by simpa using q1)).mono ?_; rintro e w' ⟨rfl, rfl⟩)
    go_wp2_with fail
    refine (said_is _ _ _ _ (by omega) (askOnW_in ..)).mono ?_
    rintro e w3 ⟨A, n, c, rfl, rfl, hr, hnew, hu⟩
    go_wp2_with fail
    go_ret2
    exact ⟨⟨A, _, c, rfl, rfl, hr, (fun p h => by simpa using hnew p h)⟩, MAt.up (w := (w.setCell ⟨b, k, none⟩ (.int .u8 (askOnN (S 0 k)))).drew) HM.out hu (by simpa using hb), (Near.set _ _ _ _).up hu⟩
set_option maxRecDepth 100000 in
set_option maxHeartbeats 1600000 in
theorem ask_askOn1 (b k : Nat) (S : Nat → Nat → Int) (G : Nat → Nat → Bool) (w : World) (hm : MAt w b S G) (hb : b < w.heap.size) (hk : k < 256) :
    Calls Try.prog 14 #[.pointer (some ⟨b, 0, none⟩), .int .i64 1, .int .u8 (k : Int), .bool true] w (AskPost b 1 k S G (askOnN (S 1 k)) (askOnW (S 1 k)) (askOnK (S 1 k)) w) := by
  obtain ⟨⟨q1, q2⟩, q3, q4⟩ := hm 1 k (by omega) hk
  have hk' : (k : Int) < 256 := by omega
  have hset := hm.setS 1 k (by omega) hk (askOnN (S 1 k))
  simp only [Nat.mul_one] at q1 q2 q3 q4 hset
  have HM := Lib.hid hset
  clear hm hset
  cases hok : askOnK (S 1 k)
  · go_enter Try.func14, Try.ntmps14
    go_wp2_with fail
    go_region_with (go_at_call 33; refine (askOn_is _ _ _ _ _ hk (by simpa using q1)).mono ?_; rintro e w' ⟨rfl, rfl⟩)
    go_wp2_with fail
    go_ret2
    exact ⟨⟨none, 0, 0, rfl, rfl, reads_two _ _, (fun p h => by cases h)⟩, HM.out, Near.set _ _ _ _⟩
  · go_enter Try.func14, Try.ntmps14
    go_wp2_with fail
    go_region_with (go_at_call 33; refine (askOn_is _ _ _ _ _ hk (by simpa using q1)).mono ?_; rintro e w' ⟨rfl, rfl⟩)
    go_wp2_with fail
    refine (said_is _ _ _ _ (by omega) (askOnW_in ..)).mono ?_
    rintro e w3 ⟨A, n, c, rfl, rfl, hr, hnew, hu⟩
    go_wp2_with fail
    go_ret2
    exact ⟨⟨A, _, c, rfl, rfl, hr, (fun p h => by simpa using hnew p h)⟩, MAt.up (w := (w.setCell ⟨b, 512 + k, none⟩ (.int .u8 (askOnN (S 1 k)))).drew) HM.out hu (by simpa using hb), (Near.set _ _ _ _).up hu⟩
set_option maxRecDepth 100000 in
set_option maxHeartbeats 1600000 in
theorem ask_askOff0 (b k : Nat) (S : Nat → Nat → Int) (G : Nat → Nat → Bool) (w : World) (hm : MAt w b S G) (hb : b < w.heap.size) (hk : k < 256) :
    Calls Try.prog 14 #[.pointer (some ⟨b, 0, none⟩), .int .i64 0, .int .u8 (k : Int), .bool false] w (AskPost b 0 k S G (askOffN (S 0 k)) (askOffW (S 0 k)) (askOffK (S 0 k)) w) := by
  obtain ⟨⟨q1, q2⟩, q3, q4⟩ := hm 0 k (by omega) hk
  have hk' : (k : Int) < 256 := by omega
  have hset := hm.setS 0 k (by omega) hk (askOffN (S 0 k))
  simp only [Nat.mul_zero, Nat.zero_add] at q1 q2 q3 q4 hset
  have HM := Lib.hid hset
  clear hm hset
  cases hok : askOffK (S 0 k)
  · go_enter Try.func14, Try.ntmps14
    go_wp2_with fail
    go_region_with (go_at_call 34; refine (askOff_is _ _ _ _ _ hk (by simpa using q1)).mono ?_; rintro e w' ⟨rfl, rfl⟩)
    go_wp2_with fail
    go_ret2
    exact ⟨⟨none, 0, 0, rfl, rfl, reads_two _ _, (fun p h => by cases h)⟩, HM.out, Near.set _ _ _ _⟩
  · go_enter Try.func14, Try.ntmps14
    go_wp2_with fail
    go_region_with (go_at_call 34; refine (askOff_is _ _ _ _ _ hk (by simpa using q1)).mono ?_; rintro e w' ⟨rfl, rfl⟩)
    go_wp2_with fail
    refine (said_is _ _ _ _ (by omega) (askOffW_in ..)).mono ?_
    rintro e w3 ⟨A, n, c, rfl, rfl, hr, hnew, hu⟩
    go_wp2_with fail
    go_ret2
    exact ⟨⟨A, _, c, rfl, rfl, hr, (fun p h => by simpa using hnew p h)⟩, MAt.up (w := (w.setCell ⟨b, k, none⟩ (.int .u8 (askOffN (S 0 k)))).drew) HM.out hu (by simpa using hb), (Near.set _ _ _ _).up hu⟩
set_option maxRecDepth 100000 in
set_option maxHeartbeats 1600000 in
theorem ask_askOff1 (b k : Nat) (S : Nat → Nat → Int) (G : Nat → Nat → Bool) (w : World) (hm : MAt w b S G) (hb : b < w.heap.size) (hk : k < 256) :
    Calls Try.prog 14 #[.pointer (some ⟨b, 0, none⟩), .int .i64 1, .int .u8 (k : Int), .bool false] w (AskPost b 1 k S G (askOffN (S 1 k)) (askOffW (S 1 k)) (askOffK (S 1 k)) w) := by
  obtain ⟨⟨q1, q2⟩, q3, q4⟩ := hm 1 k (by omega) hk
  have hk' : (k : Int) < 256 := by omega
  have hset := hm.setS 1 k (by omega) hk (askOffN (S 1 k))
  simp only [Nat.mul_one] at q1 q2 q3 q4 hset
  have HM := Lib.hid hset
  clear hm hset
  cases hok : askOffK (S 1 k)
  · go_enter Try.func14, Try.ntmps14
    go_wp2_with fail
    go_region_with (go_at_call 34; refine (askOff_is _ _ _ _ _ hk (by simpa using q1)).mono ?_; rintro e w' ⟨rfl, rfl⟩)
    go_wp2_with fail
    go_ret2
    exact ⟨⟨none, 0, 0, rfl, rfl, reads_two _ _, (fun p h => by cases h)⟩, HM.out, Near.set _ _ _ _⟩
  · go_enter Try.func14, Try.ntmps14
    go_wp2_with fail
    go_region_with (go_at_call 34; refine (askOff_is _ _ _ _ _ hk (by simpa using q1)).mono ?_; rintro e w' ⟨rfl, rfl⟩)
    go_wp2_with fail
    refine (said_is _ _ _ _ (by omega) (askOffW_in ..)).mono ?_
    rintro e w3 ⟨A, n, c, rfl, rfl, hr, hnew, hu⟩
    go_wp2_with fail
    go_ret2
    exact ⟨⟨A, _, c, rfl, rfl, hr, (fun p h => by simpa using hnew p h)⟩, MAt.up (w := (w.setCell ⟨b, 512 + k, none⟩ (.int .u8 (askOffN (S 1 k)))).drew) HM.out hu (by simpa using hb), (Near.set _ _ _ _).up hu⟩
end Go.Proofs.Ytmnepolfiipfcaa
