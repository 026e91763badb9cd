/-
  What option's steps compute over a machine's cells: heardOn, heardOff, askOn, askOff, said, Hear, Ask, State, On. No condition.
-/
import Derived.Test.YtmnepolfiipfcaaOpt1
import Derived.Test.YtmnepolfiipfcaaKeep
import Derived.Deep.RegionWith
namespace Go.Proofs.Ytmnepolfiipfcaa
open Go.RowKit
set_option linter.unusedVariables false
set_option linter.unusedSimpArgs false

def onNext (s : Int) (g : Bool) : Int := if s = 0 then (if g then 1 else 0) else if s = 2 then 0 else if s = 5 then 2 else 1
def onWord (s : Int) (g : Bool) : Int := if s = 0 then (if g then 2 else 1) else if s = 2 then 0 else if s = 5 then 1 else 0
def offNext (s : Int) : Int := if s = 1 then 0 else if s = 3 then 4 else 0
def offWord (s : Int) : Int := if s = 1 then 1 else if s = 3 then 2 else 0
set_option maxHeartbeats 800000 in
theorem heardOn_is (b off k : Nat) (s : Int) (g : Bool) (w : World) (hk : k < 256) (h1 : w.cell? ⟨b, off + k, none⟩ = some (.int .u8 s)) (h2 : w.cell? ⟨b, off + 256 + k, none⟩ = some (.bool g)) :
    Calls Try.prog 29 #[.pointer (some ⟨b, off, none⟩), .int .u8 (k : Int)] w fun e w' => e = .returned (.tuple #[.int .u8 (onNext s g), .int .u8 (onWord s g)]) ∧ w = w' := by
  have hk' : (k : Int) < 256 := by omega
  by_cases s0 : s = 0
  · subst s0
    cases g
    all_goals
      go_enter Try.func29, Try.ntmps29
      go_wp2
      go_ret2
      exact ⟨rfl, rfl⟩
  by_cases s2 : s = 2
  · subst s2
    go_enter Try.func29, Try.ntmps29
    go_wp2
    go_ret2
    exact ⟨rfl, rfl⟩
  by_cases s5 : s = 5
  · subst s5
    go_enter Try.func29, Try.ntmps29
    go_wp2
    go_ret2
    exact ⟨rfl, rfl⟩
  have e0 : (s == 0) = false := by simpa using s0
  have e2 : (s == 2) = false := by simpa using s2
  have e5 : (s == 5) = false := by simpa using s5
  simp only [onNext, onWord, s0, s2, s5, if_false]
  go_enter Try.func29, Try.ntmps29
  go_wp2
  go_ret2
  exact ⟨rfl, rfl⟩
set_option maxHeartbeats 800000 in
theorem heardOff_is (b off k : Nat) (s : Int) (w : World) (hk : k < 256) (h1 : w.cell? ⟨b, off + k, none⟩ = some (.int .u8 s)) :
    Calls Try.prog 30 #[.pointer (some ⟨b, off, none⟩), .int .u8 (k : Int)] w fun e w' => e = .returned (.tuple #[.int .u8 (offNext s), .int .u8 (offWord s)]) ∧ w = w' := by
  have hk' : (k : Int) < 256 := by omega
  by_cases s1 : s = 1
  · subst s1
    go_enter Try.func30, Try.ntmps30
    go_wp2
    go_ret2
    exact ⟨rfl, rfl⟩
  by_cases s3 : s = 3
  · subst s3
    go_enter Try.func30, Try.ntmps30
    go_wp2
    go_ret2
    exact ⟨rfl, rfl⟩
  have e1 : (s == 1) = false := by simpa using s1
  have e3 : (s == 3) = false := by simpa using s3
  simp only [offNext, offWord, s1, s3, if_false]
  go_enter Try.func30, Try.ntmps30
  go_wp2
  go_ret2
  exact ⟨rfl, rfl⟩

def verbOf (i wd : Int) : Int := if i = 0 then (if wd = 1 then 252 else 251) else (if wd = 1 then 254 else 253)
def sayL (i wd o : Int) : List (Int × Int) := if wd = 0 then [] else [(verbOf i wd, o)]
def ms (L : List (Int × Int)) : List Value := L.flatMap fun p => [.int .u8 p.1, .int .u8 p.2]
theorem reads_two (w : World) (B : Nat) : Reads w B 2 none 0 [] := ⟨by simp, fun h => absurd h (by omega)⟩
theorem reads_lit2 (W : World) (cs : Array Value) (t : TypeId) (L : List (Int × Int)) (n : Nat) (h : cs.toList = ms L) (hn : cs.size = n * 2) (g : Nat) (hg : g = W.heap.size) :
    Reads (W.alloc (.cells cs t)) (W.alloc (.cells cs t)).heap.size 2 (some ⟨g, 0, none⟩) n (ms L) := by
  have := (reads_at W g 2 n cs t hn hg).more (show W.heap.size + 1 ≤ (W.alloc (.cells cs t)).heap.size by simp)
  rw [h] at this
  exact this
set_option maxHeartbeats 800000 in
theorem said_is (i wd o : Int) (w : World) (hi : i = 0 ∨ i = 1) (hw : wd = 0 ∨ wd = 1 ∨ wd = 2) :
    Calls Try.prog 31 #[.int .i64 i, .int .u8 wd, .int .u8 o] w fun e w' => ∃ A n c, e = .returned (.slice A n c) ∧ n = (sayL i wd o).length ∧ Reads w' w'.heap.size 2 A n (ms (sayL i wd o)) ∧ (∀ p, A = some p → w.heap.size ≤ p.block) ∧ Up w w' := by
  rcases hw with rfl | rfl | rfl
  · go_enter Try.func31, Try.ntmps31
    go_wp2
    go_ret
    exact ⟨none, 0, 0, rfl, rfl, reads_two _ _, (fun p h => by cases h), by (repeat (first | with_reducible exact Up.refl _ | with_reducible refine Up.alloc ?_ _ | with_reducible refine Up.drew ?_ | with_reducible refine Up.drewN ?_ _ | with_reducible refine Up.setCell ?_ (by (try simp) <;> omega) _ | with_reducible assumption | with_reducible refine Up.trans ?_ (by assumption)))⟩
  all_goals
    rcases hi with rfl | rfl
    all_goals
      go_enter Try.func31, Try.ntmps31
      go_wp2
      go_ret
      exact ⟨_, 1, 1, rfl, rfl, reads_lit2 _ _ _ _ 1 rfl rfl _ (by simp), (fun p h => by cases h; simp), by (repeat (first | with_reducible exact Up.refl _ | with_reducible refine Up.alloc ?_ _ | with_reducible refine Up.drew ?_ | with_reducible refine Up.drewN ?_ _ | with_reducible refine Up.setCell ?_ (by (try simp) <;> omega) _ | with_reducible assumption | with_reducible refine Up.trans ?_ (by assumption)))⟩

def nextOf (verb s : Int) (g : Bool) : Int := if verb = 251 ∨ verb = 253 then onNext s g else offNext s
def wordOf (verb s : Int) (g : Bool) : Int := if verb = 251 ∨ verb = 253 then onWord s g else offWord s
def sideOf (verb : Int) : Nat := if verb = 251 ∨ verb = 252 then 1 else 0
theorem MAt.up {w w' : World} {b : Nat} {S : Nat → Nat → Int} {G : Nat → Nat → Bool} (h : MAt w b S G) (hu : Up w w') (hb : b < w.heap.size) : MAt w' b S G := by
  intro i o hi ho
  obtain ⟨⟨h1, h2⟩, h3, h4⟩ := h i o hi ho
  have hc := hu.at_ b hb
  exact ⟨⟨(hc.1 _).trans h1, (hc.2 _).trans h2⟩, (hc.1 _).trans h3, (hc.2 _).trans h4⟩
theorem onWord_in (s : Int) (g : Bool) : onWord s g = 0 ∨ onWord s g = 1 ∨ onWord s g = 2 := by
  unfold onWord; repeat' split
  all_goals simp
theorem offWord_in (s : Int) : offWord s = 0 ∨ offWord s = 1 ∨ offWord s = 2 := by
  unfold offWord; repeat' split
  all_goals simp
def HearPost (b i k : Nat) (S : Nat → Nat → Int) (G : Nat → Nat → Bool) (nx wd : Int) (w : World) (e : Ending) (w' : World) : Prop :=
  ∃ A n c, e = .returned (.tuple #[.slice A n c, .int .i64 0]) ∧ n = (sayL i wd k).length ∧ Reads w' w'.heap.size 2 A n (ms (sayL i wd k)) ∧ (∀ p, A = some p → w.heap.size ≤ p.block) ∧ MAt w' b (fun i' o' => if i' = i ∧ o' = k then nx else S i' o') G ∧ Near b w w'
set_option maxRecDepth 100000 in
set_option maxHeartbeats 1600000 in
theorem hear_253 (b k : Nat) (S : Nat → Nat → Int) (G : Nat → Nat → Bool) (w : World) (hm : MAt w b S G) (hb : b < w.heap.size) (hk : k < 256) :
    Calls Try.prog 11 #[.pointer (some ⟨b, 0, none⟩), .int .u8 253, .int .u8 (k : Int)] w (HearPost b 0 k S G (onNext (S 0 k) (G 0 k)) (onWord (S 0 k) (G 0 k)) w) := by
  obtain ⟨⟨q1, q2⟩, q3, q4⟩ := hm 0 k (by omega) hk
  have hk' : (k : Int) < 256 := by omega
  have hset := hm.setS 0 k (by omega) hk (onNext (S 0 k) (G 0 k))
  simp only [Nat.mul_zero, Nat.zero_add] at q1 q2 q3 q4
  simp only [Nat.mul_zero, Nat.zero_add] at hset
  have HM := Lib.hid hset
  clear hm hset
  go_enter Try.func11, Try.ntmps11
  go_wp2_with fail
  go_region_with (go_at_call 29; refine (heardOn_is _ _ _ _ _ _ hk (by simpa using q1) (by simpa using q3)).mono ?_; rintro e w' ⟨rfl, rfl⟩)
  go_wp2_with fail
  refine (said_is _ _ _ _ (by omega) (onWord_in ..)).mono ?_
  rintro e w3 ⟨A, n, c, rfl, rfl, hr, hnew, hu⟩
  go_wp2_with fail
  go_ret2
  exact ⟨A, _, c, rfl, rfl, hr, (fun p h => by simpa using hnew p h), MAt.up (w := (w.setCell ⟨b, k, none⟩ (.int .u8 (onNext (S 0 k) (G 0 k)))).drew) HM.out hu (by simpa using hb), (Near.set _ _ _ _).up hu⟩
set_option maxRecDepth 100000 in
set_option maxHeartbeats 1600000 in
theorem hear_254 (b k : Nat) (S : Nat → Nat → Int) (G : Nat → Nat → Bool) (w : World) (hm : MAt w b S G) (hb : b < w.heap.size) (hk : k < 256) :
    Calls Try.prog 11 #[.pointer (some ⟨b, 0, none⟩), .int .u8 254, .int .u8 (k : Int)] w (HearPost b 0 k S G (offNext (S 0 k)) (offWord (S 0 k)) w) := by
  obtain ⟨⟨q1, q2⟩, q3, q4⟩ := hm 0 k (by omega) hk
  have hk' : (k : Int) < 256 := by omega
  have hset := hm.setS 0 k (by omega) hk (offNext (S 0 k))
  simp only [Nat.mul_zero, Nat.zero_add] at q1 q2 q3 q4
  simp only [Nat.mul_zero, Nat.zero_add] at hset
  have HM := Lib.hid hset
  clear hm hset
  go_enter Try.func11, Try.ntmps11
  go_wp2_with fail
  go_region_with (go_at_call 30; refine (heardOff_is _ _ _ _ _ hk (by simpa using q1)).mono ?_; rintro e w' ⟨rfl, rfl⟩)
  go_wp2_with fail
  refine (said_is _ _ _ _ (by omega) (offWord_in ..)).mono ?_
  rintro e w3 ⟨A, n, c, rfl, rfl, hr, hnew, hu⟩
  go_wp2_with fail
  go_ret2
  exact ⟨A, _, c, rfl, rfl, hr, (fun p h => by simpa using hnew p h), MAt.up (w := (w.setCell ⟨b, k, none⟩ (.int .u8 (offNext (S 0 k)))).drew) HM.out hu (by simpa using hb), (Near.set _ _ _ _).up hu⟩
set_option maxRecDepth 100000 in
set_option maxHeartbeats 1600000 in
theorem hear_251 (b k : Nat) (S : Nat → Nat → Int) (G : Nat → Nat → Bool) (w : World) (hm : MAt w b S G) (hb : b < w.heap.size) (hk : k < 256) :
    Calls Try.prog 11 #[.pointer (some ⟨b, 0, none⟩), .int .u8 251, .int .u8 (k : Int)] w (HearPost b 1 k S G (onNext (S 1 k) (G 1 k)) (onWord (S 1 k) (G 1 k)) w) := by
  obtain ⟨⟨q1, q2⟩, q3, q4⟩ := hm 1 k (by omega) hk
  have hk' : (k : Int) < 256 := by omega
  have hset := hm.setS 1 k (by omega) hk (onNext (S 1 k) (G 1 k))
  simp only [Nat.mul_one] at q1 q2 q3 q4
  rw [show 512 + 256 + k = 768 + k by omega] at q3 q4
  simp only [Nat.mul_one] at hset
  have HM := Lib.hid hset
  clear hm hset
  go_enter Try.func11, Try.ntmps11
  go_wp2_with fail
  go_region_with (go_at_call 29; refine (heardOn_is _ _ _ _ _ _ hk (by simpa using q1) (by simpa using q3)).mono ?_; rintro e w' ⟨rfl, rfl⟩)
  go_wp2_with fail
  refine (said_is _ _ _ _ (by omega) (onWord_in ..)).mono ?_
  rintro e w3 ⟨A, n, c, rfl, rfl, hr, hnew, hu⟩
  go_wp2_with fail
  go_ret2
  exact ⟨A, _, c, rfl, rfl, hr, (fun p h => by simpa using hnew p h), MAt.up (w := (w.setCell ⟨b, 512 + k, none⟩ (.int .u8 (onNext (S 1 k) (G 1 k)))).drew) HM.out hu (by simpa using hb), (Near.set _ _ _ _).up hu⟩
set_option maxRecDepth 100000 in
set_option maxHeartbeats 1600000 in
theorem hear_252 (b k : Nat) (S : Nat → Nat → Int) (G : Nat → Nat → Bool) (w : World) (hm : MAt w b S G) (hb : b < w.heap.size) (hk : k < 256) :
    Calls Try.prog 11 #[.pointer (some ⟨b, 0, none⟩), .int .u8 252, .int .u8 (k : Int)] w (HearPost b 1 k S G (offNext (S 1 k)) (offWord (S 1 k)) w) := by
  obtain ⟨⟨q1, q2⟩, q3, q4⟩ := hm 1 k (by omega) hk
  have hk' : (k : Int) < 256 := by omega
  have hset := hm.setS 1 k (by omega) hk (offNext (S 1 k))
  simp only [Nat.mul_one] at q1 q2 q3 q4
  rw [show 512 + 256 + k = 768 + k by omega] at q3 q4
  simp only [Nat.mul_one] at hset
  have HM := Lib.hid hset
  clear hm hset
  go_enter Try.func11, Try.ntmps11
  go_wp2_with fail
  go_region_with (go_at_call 30; refine (heardOff_is _ _ _ _ _ hk (by simpa using q1)).mono ?_; rintro e w' ⟨rfl, rfl⟩)
  go_wp2_with fail
  refine (said_is _ _ _ _ (by omega) (offWord_in ..)).mono ?_
  rintro e w3 ⟨A, n, c, rfl, rfl, hr, hnew, hu⟩
  go_wp2_with fail
  go_ret2
  exact ⟨A, _, c, rfl, rfl, hr, (fun p h => by simpa using hnew p h), MAt.up (w := (w.setCell ⟨b, 512 + k, none⟩ (.int .u8 (offNext (S 1 k)))).drew) HM.out hu (by simpa using hb), (Near.set _ _ _ _).up hu⟩
end Go.Proofs.Ytmnepolfiipfcaa
