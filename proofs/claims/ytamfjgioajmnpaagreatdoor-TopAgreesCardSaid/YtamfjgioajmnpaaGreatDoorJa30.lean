/-
A machine's memory; what option.New computes. No condition.
What option's steps compute over a machine's cells: heardOn, heardOff, askOn, askOff, said, Hear, Ask, State, On. No condition.
What option's Hear does at other verbs and at a nil machine; askOn, askOff, Ask, State, On. No condition.
-/
import Derived.Test.YtamfjgioajmnpaaGreatDoorJa1
import Derived.Test.YtamfjgioajmnpaaGreatDoorJa2
import Derived.Deep.RegionWith
namespace Go.Proofs.YtamfjgioajmnpaaGreatDoor
open Go.RowKit
set_option linter.unusedVariables false
set_option linter.unusedSimpArgs false

def mach0 : Array Value := (List.replicate 256 (Value.int .u8 0) ++ List.replicate 256 (Value.bool false) ++ (List.replicate 256 (Value.int .u8 0) ++ List.replicate 256 (Value.bool false))).toArray
theorem four_rows {α : Type} (a b c d : α) (k o : Nat) (ho : o < k) : let l := List.replicate k a ++ List.replicate k b ++ (List.replicate k c ++ List.replicate k d)
    l[o]? = some a ∧ l[k + o]? = some b ∧ l[k + k + o]? = some c ∧ l[k + k + k + o]? = some d := by
  refine ⟨?_, ?_, ?_, ?_⟩
  · rw [List.getElem?_append_left (by simp; omega), List.getElem?_append_left (by simp; omega), List.getElem?_replicate, if_pos (by omega)]
  · rw [List.getElem?_append_left (by simp; omega), List.getElem?_append_right (by simp), List.getElem?_replicate, if_pos (by simp; omega)]
  · rw [List.getElem?_append_right (by simp), List.getElem?_append_left (by simp; omega), List.getElem?_replicate, if_pos (by simp; omega)]
  · rw [List.getElem?_append_right (by simp; omega), List.getElem?_append_right (by simp; omega), List.getElem?_replicate, if_pos (by simp; omega)]
theorem mach0_l {i o : Nat} (hi : i < 2) (ho : o < 256) : mach0[512 * i + o]? = some (.int .u8 0) ∧ mach0[512 * i + 256 + o]? = some (.bool false) := by
  have h := four_rows (Value.int .u8 0) (Value.bool false) (Value.int .u8 0) (Value.bool false) 256 o ho
  obtain ⟨h0, h1, h2, h3⟩ := h
  obtain rfl | rfl : i = 0 ∨ i = 1 := by omega
  · refine ⟨?_, ?_⟩
    · rw [show 512 * 0 + o = o by omega]; exact (List.getElem?_toArray ..).trans h0
    · rw [show 512 * 0 + 256 + o = 256 + o by omega]; exact (List.getElem?_toArray ..).trans h1
  · refine ⟨?_, ?_⟩
    · rw [show 512 * 1 + o = 256 + 256 + o by omega]; exact (List.getElem?_toArray ..).trans h2
    · rw [show 512 * 1 + 256 + o = 256 + 256 + 256 + o by omega]; exact (List.getElem?_toArray ..).trans h3
theorem zero_name : Tryz.zeroCells156 = mach0 := by kernel_rfl
/-- a machine's cells: its states and what it agrees to -/
def MAt (w : World) (b : Nat) (S : Nat → Nat → Int) (G : Nat → Nat → Bool) : Prop :=
  ∀ i o, i < 2 → o < 256 → (w.cell? ⟨b, 512 * i + o, none⟩ = some (.int .u8 (S i o)) ∧ w.frozen? ⟨b, 512 * i + o, none⟩ = false) ∧ w.cell? ⟨b, 512 * i + 256 + o, none⟩ = some (.bool (G i o)) ∧ w.frozen? ⟨b, 512 * i + 256 + o, none⟩ = false

theorem ad_ne {b x y : Nat} (h : x ≠ y) : (⟨b, x, none⟩ : Addr) ≠ ⟨b, y, none⟩ := fun e => h (by injection e)
theorem MAt.setG {w : World} {b : Nat} {S : Nat → Nat → Int} {G : Nat → Nat → Bool} (h : MAt w b S G) (i o : Nat) (hi : i < 2) (ho : o < 256) (g : Bool) :
    MAt (w.setCell ⟨b, 512 * i + 256 + o, none⟩ (.bool g)) b S (fun i' o' => if i' = i ∧ o' = o then g else G i' o') := by
  intro i' o' hi' ho'
  obtain ⟨⟨h1, h2⟩, h3, h4⟩ := h i' o' hi' ho'
  refine ⟨⟨?_, ?_⟩, ?_, ?_⟩
  · rw [World.cell?_setCell_other (h := (ad_ne (show 512 * i + 256 + o ≠ 512 * i' + o' by omega)))]; exact h1
  · rw [World.frozen?_setCell]; exact h2
  · by_cases e : i' = i ∧ o' = o
    · obtain ⟨rfl, rfl⟩ := e
      rw [World.cell?_setCell_same (h := h3)]; simp
    · rw [World.cell?_setCell_other (h := (ad_ne (show 512 * i + 256 + o ≠ 512 * i' + 256 + o' by omega)))]; simp only [if_neg e]; exact h3
  · rw [World.frozen?_setCell]; exact h4
theorem MAt.setS {w : World} {b : Nat} {S : Nat → Nat → Int} {G : Nat → Nat → Bool} (h : MAt w b S G) (i o : Nat) (hi : i < 2) (ho : o < 256) (s : Int) :
    MAt (w.setCell ⟨b, 512 * i + o, none⟩ (.int .u8 s)) b (fun i' o' => if i' = i ∧ o' = o then s else S i' o') G := by
  intro i' o' hi' ho'
  obtain ⟨⟨h1, h2⟩, h3, h4⟩ := h i' o' hi' ho'
  refine ⟨⟨?_, ?_⟩, ?_, ?_⟩
  · by_cases e : i' = i ∧ o' = o
    · obtain ⟨rfl, rfl⟩ := e
      rw [World.cell?_setCell_same (h := h1)]; simp
    · rw [World.cell?_setCell_other (h := (ad_ne (show 512 * i + o ≠ 512 * i' + o' by omega)))]; simp only [if_neg e]; exact h1
  · rw [World.frozen?_setCell]; exact h2
  · rw [World.cell?_setCell_other (h := (ad_ne (show 512 * i + o ≠ 512 * i' + 256 + o' by omega)))]; exact h3
  · rw [World.frozen?_setCell]; exact h4
theorem MAt.ext {w : World} {b : Nat} {S S' : Nat → Nat → Int} {G G' : Nat → Nat → Bool} (h : MAt w b S G) (hS : ∀ i o, i < 2 → o < 256 → S i o = S' i o) (hG : ∀ i o, i < 2 → o < 256 → G i o = G' i o) : MAt w b S' G' := by
  intro i o hi ho
  rw [← hS i o hi ho, ← hG i o hi ho]; exact h i o hi ho
theorem byte_nat {x : Int} (h : 0 ≤ x ∧ x ≤ 255) : ∃ k : Nat, k < 256 ∧ x = (k : Int) := ⟨x.toNat, by omega, by omega⟩
theorem bs_at {w : World} {B b off n : Nat} {l : List Int} (hr : Reads w B 1 (some ⟨b, off, none⟩) n (bs l)) (j : Nat) (hj : j < n) : w.cell? ⟨b, off + j, none⟩ = some (.int .u8 (l.getD j 0)) := by
  have hl : l.length = n := by have := hr.1; simpa [bs] using this
  obtain ⟨b', off', e, _, hc⟩ := hr.2 (by omega)
  injection e with e
  injection e with e1 e2 _
  subst e1; subst e2
  exact hc j _ (by rw [bs, List.getElem?_map, List.getD, List.getElem?_eq_getElem (show j < l.length by omega)]; rfl)
theorem take_in (l : List Int) (j : Nat) (hj : j < l.length) (o : Int) : (decide (o ∈ l.take (j + 1))) = (decide (o = l.getD j 0) || decide (o ∈ l.take j)) := by
  have e : (o ∈ l.take (j + 1)) ↔ (o = l.getD j 0 ∨ o ∈ l.take j) := by
    rw [List.take_succ_eq_append_getElem hj, List.getD, List.getElem?_eq_getElem hj, List.mem_append, List.mem_singleton, Or.comm]; rfl
  rw [decide_eq_decide.2 e, Bool.decide_or]
theorem mat_new (w : World) : MAt (w.alloc (.cells mach0 156)) w.heap.size (fun _ _ => 0) (fun _ _ => false) := by
  intro i o hi ho
  obtain ⟨h1, h2⟩ := mach0_l hi ho
  refine ⟨⟨?_, ?_⟩, ?_, ?_⟩
  · rw [World.cell?_alloc_new]; exact h1
  · simp
  · rw [World.cell?_alloc_new]; exact h2
  · simp
set_option maxRecDepth 100000 in
set_option maxHeartbeats 800000 in
theorem new_any (A1 A2 : Option Addr) (n1 n2 c1 c2 : Nat) (l1 l2 : List Int) (w : World) (hr1 : Reads w w.heap.size 1 A1 n1 (bs l1)) (hr2 : Reads w w.heap.size 1 A2 n2 (bs l2)) (hn1 : n1 ≤ 65536) (hn2 : n2 ≤ 65536) (hw1 : ∀ x ∈ l1, 0 ≤ x ∧ x ≤ 255) (hw2 : ∀ x ∈ l2, 0 ≤ x ∧ x ≤ 255) :
    Calls Tryz.prog 27 #[.slice A1 n1 c1, .slice A2 n2 c2] w fun e w' => e = .returned (.pointer (some ⟨w.heap.size, 0, none⟩)) ∧ MAt w' w.heap.size (fun _ _ => 0) (fun i o => if i = 0 then decide ((o : Int) ∈ l1) else decide ((o : Int) ∈ l2)) ∧ Up w w' := by
  go_enter Tryz.func27, Tryz.ntmps27
  go_wp2_with fail
  rw [zero_name]
  have hm0 := mat_new w
  have hu0 : Up w (w.alloc (.cells mach0 156)) := (Up.refl w).alloc _
  generalize w.alloc (.cells mach0 156) = w1 at *
  go_loopw [14] (fun i wr => ∃ j : Nat, j ≤ n1 ∧ i = .int .i64 (j : Int) ∧ MAt wr w.heap.size (fun _ _ => 0) (fun i o => if i = 0 then decide ((o : Int) ∈ l1.take j) else false) ∧ Up w wr) (fun i _ => n1 - (intOf i).toNat)
  case atStart => exact ⟨0, by omega, rfl, by simpa using hm0, hu0⟩
  case round =>
    obtain ⟨j, hj, rfl, hm, hu⟩ := hrel
    by_cases hlt : j < n1
    · obtain ⟨b1, off, rfl, hb⟩ := hr1.form (by omega)
      have hl1 : l1.length = n1 := by have := hr1.1; simpa [bs] using this
      have hc := bs_at (hr1.below hu) j hlt
      have htk := take_in l1 j (by omega)
      obtain ⟨k, hk, hx⟩ := byte_nat (hw1 (l1.getD j 0) (by rw [List.getD, List.getElem?_eq_getElem (by omega)]; exact List.getElem_mem _))
      rw [hx] at hc htk
      have hbw : b1 < wr.heap.size := by have := hu.size; omega
      obtain ⟨-, q3, q4⟩ := hm 0 k (by omega) hk
      have hset := hm.setG 0 k (by omega) hk true
      have HM := Lib.hid hm
      have HT := Lib.hid htk
      clear hm htk
      simp only [Nat.mul_zero, Nat.zero_add] at q3 q4 hset
      have HS := Lib.hid hset
      clear hset
      go_wp2
      go_roundw
      case rel =>
        refine ⟨j + 1, by omega, by go_num, HS.out.ext (fun _ _ _ _ => rfl) (fun i o hi ho => ?_), hu.setCell (Nat.le_refl _) _⟩
        by_cases hi0 : i = 0
        · subst hi0
          simp only [if_true, true_and, HT.out]
          by_cases e : o = k
          · subst e; simp
          · rw [if_neg e, decide_eq_false (p := (o : Int) = (k : Int)) (by omega), Bool.false_or]
        · simp only [hi0, if_false, false_and]
      case measure => simp [intOf]; omega
    · obtain rfl : j = n1 := by omega
      have hl1 : l1.length = j := by have := hr1.1; simpa [bs] using this
      rw [List.take_of_length_le (by omega)] at hm
      clear hm0 hu0
      go_wp2
      go_loopw [28] (fun i wq => ∃ q : Nat, q ≤ n2 ∧ i = .int .i64 (q : Int) ∧ MAt wq w.heap.size (fun _ _ => 0) (fun i o => if i = 0 then decide ((o : Int) ∈ l1) else decide ((o : Int) ∈ l2.take q)) ∧ Up w wq) (fun i _ => n2 - (intOf i).toNat)
      case atStart => exact ⟨0, by omega, rfl, by simpa using hm, hu⟩
      case round =>
        obtain ⟨q, hq, rfl, hm, hu⟩ := hrel
        by_cases hlt : q < n2
        · obtain ⟨b1, off, rfl, hb⟩ := hr2.form (by omega)
          have hl1 : l2.length = n2 := by have := hr2.1; simpa [bs] using this
          have hc := bs_at (hr2.below hu) q hlt
          have htk := take_in l2 q (by omega)
          obtain ⟨k, hk, hx⟩ := byte_nat (hw2 (l2.getD q 0) (by rw [List.getD, List.getElem?_eq_getElem (by omega)]; exact List.getElem_mem _))
          rw [hx] at hc htk
          have hbw : b1 < wr.heap.size := by have := hu.size; omega
          obtain ⟨-, q3, q4⟩ := hm 1 k (by omega) hk
          have hset := hm.setG 1 k (by omega) hk true
          have HM := Lib.hid hm
          have HT := Lib.hid htk
          clear hm htk
          simp only [Nat.mul_one] at q3 q4 hset
          rw [show 512 + 256 + k = 768 + k by omega] at q3 q4 hset
          have HS := Lib.hid hset
          clear hset
          go_wp2
          go_roundw
          case rel =>
            refine ⟨q + 1, by omega, by go_num, HS.out.ext (fun _ _ _ _ => rfl) (fun i o hi ho => ?_), hu.setCell (Nat.le_refl _) _⟩
            by_cases hi0 : i = 0
            · subst hi0
              simp
            · have hi1 : i = 1 := by omega
              subst hi1
              simp only [hi0, if_false, true_and, HT.out]
              by_cases e : o = k
              · subst e; simp
              · rw [if_neg e, decide_eq_false (p := (o : Int) = (k : Int)) (by omega), Bool.false_or]
          case measure => simp [intOf]; omega
        · obtain rfl : q = n2 := by omega
          have hl2 : l2.length = q := by have := hr2.1; simpa [bs] using this
          rw [List.take_of_length_le (by omega)] at hm
          go_wp2
          go_ret
          exact ⟨rfl, hm, hu⟩
end Go.Proofs.YtamfjgioajmnpaaGreatDoor
namespace Go.Proofs.YtamfjgioajmnpaaGreatDoor
open Go.RowKit
set_option linter.unusedVariables false
set_option linter.unusedSimpArgs false

def onNext (s : Int) (g : Bool) : Int := if s = 0 then (if g then 1 else 0) else if s = 2 then 0 else if s = 5 then 2 else 1
def onWord (s : Int) (g : Bool) : Int := if s = 0 then (if g then 2 else 1) else if s = 2 then 0 else if s = 5 then 1 else 0
def offNext (s : Int) : Int := if s = 1 then 0 else if s = 3 then 4 else 0
def offWord (s : Int) : Int := if s = 1 then 1 else if s = 3 then 2 else 0
set_option maxHeartbeats 800000 in
theorem heardOn_is (b off k : Nat) (s : Int) (g : Bool) (w : World) (hk : k < 256) (h1 : w.cell? ⟨b, off + k, none⟩ = some (.int .u8 s)) (h2 : w.cell? ⟨b, off + 256 + k, none⟩ = some (.bool g)) :
    Calls Tryz.prog 119 #[.pointer (some ⟨b, off, none⟩), .int .u8 (k : Int)] w fun e w' => e = .returned (.tuple #[.int .u8 (onNext s g), .int .u8 (onWord s g)]) ∧ w = w' := by
  have hk' : (k : Int) < 256 := by omega
  by_cases s0 : s = 0
  · subst s0
    cases g
    all_goals
      go_enter Tryz.func119, Tryz.ntmps119
      go_wp2
      go_ret2
      exact ⟨rfl, rfl⟩
  by_cases s2 : s = 2
  · subst s2
    go_enter Tryz.func119, Tryz.ntmps119
    go_wp2
    go_ret2
    exact ⟨rfl, rfl⟩
  by_cases s5 : s = 5
  · subst s5
    go_enter Tryz.func119, Tryz.ntmps119
    go_wp2
    go_ret2
    exact ⟨rfl, rfl⟩
  have e0 : (s == 0) = false := by simpa using s0
  have e2 : (s == 2) = false := by simpa using s2
  have e5 : (s == 5) = false := by simpa using s5
  simp only [onNext, onWord, s0, s2, s5, if_false]
  go_enter Tryz.func119, Tryz.ntmps119
  go_wp2
  go_ret2
  exact ⟨rfl, rfl⟩
set_option maxHeartbeats 800000 in
theorem heardOff_is (b off k : Nat) (s : Int) (w : World) (hk : k < 256) (h1 : w.cell? ⟨b, off + k, none⟩ = some (.int .u8 s)) :
    Calls Tryz.prog 120 #[.pointer (some ⟨b, off, none⟩), .int .u8 (k : Int)] w fun e w' => e = .returned (.tuple #[.int .u8 (offNext s), .int .u8 (offWord s)]) ∧ w = w' := by
  have hk' : (k : Int) < 256 := by omega
  by_cases s1 : s = 1
  · subst s1
    go_enter Tryz.func120, Tryz.ntmps120
    go_wp2
    go_ret2
    exact ⟨rfl, rfl⟩
  by_cases s3 : s = 3
  · subst s3
    go_enter Tryz.func120, Tryz.ntmps120
    go_wp2
    go_ret2
    exact ⟨rfl, rfl⟩
  have e1 : (s == 1) = false := by simpa using s1
  have e3 : (s == 3) = false := by simpa using s3
  simp only [offNext, offWord, s1, s3, if_false]
  go_enter Tryz.func120, Tryz.ntmps120
  go_wp2
  go_ret2
  exact ⟨rfl, rfl⟩

def verbOf (i wd : Int) : Int := if i = 0 then (if wd = 1 then 252 else 251) else (if wd = 1 then 254 else 253)
def sayL (i wd o : Int) : List (Int × Int) := if wd = 0 then [] else [(verbOf i wd, o)]
def ms (L : List (Int × Int)) : List Value := L.flatMap fun p => [.int .u8 p.1, .int .u8 p.2]
theorem reads_two (w : World) (B : Nat) : Reads w B 2 none 0 [] := ⟨by simp, fun h => absurd h (by omega)⟩
theorem reads_lit2 (W : World) (cs : Array Value) (t : TypeId) (L : List (Int × Int)) (n : Nat) (h : cs.toList = ms L) (hn : cs.size = n * 2) (g : Nat) (hg : g = W.heap.size) :
    Reads (W.alloc (.cells cs t)) (W.alloc (.cells cs t)).heap.size 2 (some ⟨g, 0, none⟩) n (ms L) := by
  have := (reads_at W g 2 n cs t hn hg).more (show W.heap.size + 1 ≤ (W.alloc (.cells cs t)).heap.size by simp)
  rw [h] at this
  exact this
set_option maxHeartbeats 800000 in
theorem said_is (i wd o : Int) (w : World) (hi : i = 0 ∨ i = 1) (hw : wd = 0 ∨ wd = 1 ∨ wd = 2) :
    Calls Tryz.prog 73 #[.int .i64 i, .int .u8 wd, .int .u8 o] w fun e w' => ∃ A n c, e = .returned (.slice A n c) ∧ n = (sayL i wd o).length ∧ Reads w' w'.heap.size 2 A n (ms (sayL i wd o)) ∧ (∀ p, A = some p → w.heap.size ≤ p.block) ∧ Up w w' := by
  rcases hw with rfl | rfl | rfl
  · go_enter Tryz.func73, Tryz.ntmps73
    go_wp2
    go_ret
    exact ⟨none, 0, 0, rfl, rfl, reads_two _ _, (fun p h => by cases h), by (repeat (first | with_reducible exact Up.refl _ | with_reducible refine Up.alloc ?_ _ | with_reducible refine Up.drew ?_ | with_reducible refine Up.drewN ?_ _ | with_reducible refine Up.setCell ?_ (by (try simp) <;> omega) _ | with_reducible assumption | with_reducible refine Up.trans ?_ (by assumption)))⟩
  all_goals
    rcases hi with rfl | rfl
    all_goals
      go_enter Tryz.func73, Tryz.ntmps73
      go_wp2
      go_ret
      exact ⟨_, 1, 1, rfl, rfl, reads_lit2 _ _ _ _ 1 rfl rfl _ (by simp), (fun p h => by cases h; simp), by (repeat (first | with_reducible exact Up.refl _ | with_reducible refine Up.alloc ?_ _ | with_reducible refine Up.drew ?_ | with_reducible refine Up.drewN ?_ _ | with_reducible refine Up.setCell ?_ (by (try simp) <;> omega) _ | with_reducible assumption | with_reducible refine Up.trans ?_ (by assumption)))⟩

def nextOf (verb s : Int) (g : Bool) : Int := if verb = 251 ∨ verb = 253 then onNext s g else offNext s
def wordOf (verb s : Int) (g : Bool) : Int := if verb = 251 ∨ verb = 253 then onWord s g else offWord s
def sideOf (verb : Int) : Nat := if verb = 251 ∨ verb = 252 then 1 else 0
theorem MAt.up {w w' : World} {b : Nat} {S : Nat → Nat → Int} {G : Nat → Nat → Bool} (h : MAt w b S G) (hu : Up w w') (hb : b < w.heap.size) : MAt w' b S G := by
  intro i o hi ho
  obtain ⟨⟨h1, h2⟩, h3, h4⟩ := h i o hi ho
  have hc := hu.at_ b hb
  exact ⟨⟨(hc.1 _).trans h1, (hc.2 _).trans h2⟩, (hc.1 _).trans h3, (hc.2 _).trans h4⟩
theorem onWord_in (s : Int) (g : Bool) : onWord s g = 0 ∨ onWord s g = 1 ∨ onWord s g = 2 := by
  unfold onWord; repeat' split
  all_goals simp
theorem offWord_in (s : Int) : offWord s = 0 ∨ offWord s = 1 ∨ offWord s = 2 := by
  unfold offWord; repeat' split
  all_goals simp
def HearPost (b i k : Nat) (S : Nat → Nat → Int) (G : Nat → Nat → Bool) (nx wd : Int) (w : World) (e : Ending) (w' : World) : Prop :=
  ∃ A n c, e = .returned (.tuple #[.slice A n c, .int .i64 0]) ∧ n = (sayL i wd k).length ∧ Reads w' w'.heap.size 2 A n (ms (sayL i wd k)) ∧ (∀ p, A = some p → w.heap.size ≤ p.block) ∧ MAt w' b (fun i' o' => if i' = i ∧ o' = k then nx else S i' o') G ∧ Near b w w'
set_option maxRecDepth 100000 in
set_option maxHeartbeats 1600000 in
theorem hear_253 (b k : Nat) (S : Nat → Nat → Int) (G : Nat → Nat → Bool) (w : World) (hm : MAt w b S G) (hb : b < w.heap.size) (hk : k < 256) :
    Calls Tryz.prog 75 #[.pointer (some ⟨b, 0, none⟩), .int .u8 253, .int .u8 (k : Int)] w (HearPost b 0 k S G (onNext (S 0 k) (G 0 k)) (onWord (S 0 k) (G 0 k)) w) := by
  obtain ⟨⟨q1, q2⟩, q3, q4⟩ := hm 0 k (by omega) hk
  have hk' : (k : Int) < 256 := by omega
  have hset := hm.setS 0 k (by omega) hk (onNext (S 0 k) (G 0 k))
  simp only [Nat.mul_zero, Nat.zero_add] at q1 q2 q3 q4
  simp only [Nat.mul_zero, Nat.zero_add] at hset
  have HM := Lib.hid hset
  clear hm hset
  go_enter Tryz.func75, Tryz.ntmps75
  go_wp2_with fail
  go_region_with (go_at_call 119; refine (heardOn_is _ _ _ _ _ _ hk (by simpa using q1) (by simpa using q3)).mono ?_; rintro e w' ⟨rfl, rfl⟩)
  go_wp2_with fail
  refine (said_is _ _ _ _ (by omega) (onWord_in ..)).mono ?_
  rintro e w3 ⟨A, n, c, rfl, rfl, hr, hnew, hu⟩
  go_wp2_with fail
  go_ret2
  exact ⟨A, _, c, rfl, rfl, hr, (fun p h => by simpa using hnew p h), MAt.up (w := (w.setCell ⟨b, k, none⟩ (.int .u8 (onNext (S 0 k) (G 0 k)))).drew) HM.out hu (by simpa using hb), (Near.set _ _ _ _).up hu⟩
set_option maxRecDepth 100000 in
set_option maxHeartbeats 1600000 in
theorem hear_254 (b k : Nat) (S : Nat → Nat → Int) (G : Nat → Nat → Bool) (w : World) (hm : MAt w b S G) (hb : b < w.heap.size) (hk : k < 256) :
    Calls Tryz.prog 75 #[.pointer (some ⟨b, 0, none⟩), .int .u8 254, .int .u8 (k : Int)] w (HearPost b 0 k S G (offNext (S 0 k)) (offWord (S 0 k)) w) := by
  obtain ⟨⟨q1, q2⟩, q3, q4⟩ := hm 0 k (by omega) hk
  have hk' : (k : Int) < 256 := by omega
  have hset := hm.setS 0 k (by omega) hk (offNext (S 0 k))
  simp only [Nat.mul_zero, Nat.zero_add] at q1 q2 q3 q4
  simp only [Nat.mul_zero, Nat.zero_add] at hset
  have HM := Lib.hid hset
  clear hm hset
  go_enter Tryz.func75, Tryz.ntmps75
  go_wp2_with fail
  go_region_with (go_at_call 120; refine (heardOff_is _ _ _ _ _ hk (by simpa using q1)).mono ?_; rintro e w' ⟨rfl, rfl⟩)
  go_wp2_with fail
  refine (said_is _ _ _ _ (by omega) (offWord_in ..)).mono ?_
  rintro e w3 ⟨A, n, c, rfl, rfl, hr, hnew, hu⟩
  go_wp2_with fail
  go_ret2
  exact ⟨A, _, c, rfl, rfl, hr, (fun p h => by simpa using hnew p h), MAt.up (w := (w.setCell ⟨b, k, none⟩ (.int .u8 (offNext (S 0 k)))).drew) HM.out hu (by simpa using hb), (Near.set _ _ _ _).up hu⟩
set_option maxRecDepth 100000 in
set_option maxHeartbeats 1600000 in
theorem hear_251 (b k : Nat) (S : Nat → Nat → Int) (G : Nat → Nat → Bool) (w : World) (hm : MAt w b S G) (hb : b < w.heap.size) (hk : k < 256) :
    Calls Tryz.prog 75 #[.pointer (some ⟨b, 0, none⟩), .int .u8 251, .int .u8 (k : Int)] w (HearPost b 1 k S G (onNext (S 1 k) (G 1 k)) (onWord (S 1 k) (G 1 k)) w) := by
  obtain ⟨⟨q1, q2⟩, q3, q4⟩ := hm 1 k (by omega) hk
  have hk' : (k : Int) < 256 := by omega
  have hset := hm.setS 1 k (by omega) hk (onNext (S 1 k) (G 1 k))
  simp only [Nat.mul_one] at q1 q2 q3 q4
  rw [show 512 + 256 + k = 768 + k by omega] at q3 q4
  simp only [Nat.mul_one] at hset
  have HM := Lib.hid hset
  clear hm hset
  go_enter Tryz.func75, Tryz.ntmps75
  go_wp2_with fail
  go_region_with (go_at_call 119; refine (heardOn_is _ _ _ _ _ _ hk (by simpa using q1) (by simpa using q3)).mono ?_; rintro e w' ⟨rfl, rfl⟩)
  go_wp2_with fail
  refine (said_is _ _ _ _ (by omega) (onWord_in ..)).mono ?_
  rintro e w3 ⟨A, n, c, rfl, rfl, hr, hnew, hu⟩
  go_wp2_with fail
  go_ret2
  exact ⟨A, _, c, rfl, rfl, hr, (fun p h => by simpa using hnew p h), MAt.up (w := (w.setCell ⟨b, 512 + k, none⟩ (.int .u8 (onNext (S 1 k) (G 1 k)))).drew) HM.out hu (by simpa using hb), (Near.set _ _ _ _).up hu⟩
set_option maxRecDepth 100000 in
set_option maxHeartbeats 1600000 in
theorem hear_252 (b k : Nat) (S : Nat → Nat → Int) (G : Nat → Nat → Bool) (w : World) (hm : MAt w b S G) (hb : b < w.heap.size) (hk : k < 256) :
    Calls Tryz.prog 75 #[.pointer (some ⟨b, 0, none⟩), .int .u8 252, .int .u8 (k : Int)] w (HearPost b 1 k S G (offNext (S 1 k)) (offWord (S 1 k)) w) := by
  obtain ⟨⟨q1, q2⟩, q3, q4⟩ := hm 1 k (by omega) hk
  have hk' : (k : Int) < 256 := by omega
  have hset := hm.setS 1 k (by omega) hk (offNext (S 1 k))
  simp only [Nat.mul_one] at q1 q2 q3 q4
  rw [show 512 + 256 + k = 768 + k by omega] at q3 q4
  simp only [Nat.mul_one] at hset
  have HM := Lib.hid hset
  clear hm hset
  go_enter Tryz.func75, Tryz.ntmps75
  go_wp2_with fail
  go_region_with (go_at_call 120; refine (heardOff_is _ _ _ _ _ hk (by simpa using q1)).mono ?_; rintro e w' ⟨rfl, rfl⟩)
  go_wp2_with fail
  refine (said_is _ _ _ _ (by omega) (offWord_in ..)).mono ?_
  rintro e w3 ⟨A, n, c, rfl, rfl, hr, hnew, hu⟩
  go_wp2_with fail
  go_ret2
  exact ⟨A, _, c, rfl, rfl, hr, (fun p h => by simpa using hnew p h), MAt.up (w := (w.setCell ⟨b, 512 + k, none⟩ (.int .u8 (offNext (S 1 k)))).drew) HM.out hu (by simpa using hb), (Near.set _ _ _ _).up hu⟩
end Go.Proofs.YtamfjgioajmnpaaGreatDoor
namespace Go.Proofs.YtamfjgioajmnpaaGreatDoor
open Go.RowKit
set_option linter.unusedVariables false
set_option linter.unusedSimpArgs false

set_option maxHeartbeats 800000 in
theorem hear_other (A : Option Addr) (v o : Int) (w : World) (hA : A ≠ none) (h1 : v ≠ 251) (h2 : v ≠ 252) (h3 : v ≠ 253) (h4 : v ≠ 254) :
    Calls Tryz.prog 75 #[.pointer A, .int .u8 v, .int .u8 o] w fun e w' => e = .returned (.tuple #[.slice none 0 0, .int .i64 1]) ∧ w = w' := by
  obtain ⟨a, rfl⟩ := Option.ne_none_iff_exists'.1 hA
  have e1 : (v == 251) = false := by simpa using h1
  have e2 : (v == 252) = false := by simpa using h2
  have e3 : (v == 253) = false := by simpa using h3
  have e4 : (v == 254) = false := by simpa using h4
  go_enter Tryz.func75, Tryz.ntmps75
  go_wp2
  go_ret2
  exact ⟨rfl, rfl⟩
set_option maxHeartbeats 800000 in
theorem ask_side (A : Option Addr) (i o : Int) (t : Bool) (w : World) (hA : A ≠ none) (h0 : i ≠ 0) (h1 : i ≠ 1) :
    Calls Tryz.prog 29 #[.pointer A, .int .i64 i, .int .u8 o, .bool t] w fun e w' => e = .returned (.tuple #[.slice none 0 0, .int .i64 1]) ∧ w = w' := by
  obtain ⟨a, rfl⟩ := Option.ne_none_iff_exists'.1 hA
  have e1 : (i != 0) = true := by simpa using h0
  have e2 : (i != 1) = true := by simpa using h1
  go_enter Tryz.func29, Tryz.ntmps29
  go_wp2
  go_ret2
  exact ⟨rfl, rfl⟩
set_option maxHeartbeats 800000 in
theorem state_is (b k i : Nat) (S : Nat → Nat → Int) (G : Nat → Nat → Bool) (w : World) (hm : MAt w b S G) (hk : k < 256) (hi : i < 2) (hs : 0 ≤ S i k ∧ S i k ≤ 255) :
    Calls Tryz.prog 77 #[.pointer (some ⟨b, 0, none⟩), .int .i64 (i : Int), .int .u8 (k : Int)] w fun e w' => e = .returned (.int .i64 (S i k)) ∧ w = w' := by
  obtain ⟨⟨q1, q2⟩, q3, q4⟩ := hm i k hi hk
  have hk' : (k : Int) < 256 := by omega
  clear hm
  obtain ⟨hs0, hs1⟩ := hs
  obtain rfl | rfl : i = 0 ∨ i = 1 := by omega
  · simp only [Nat.mul_zero, Nat.zero_add] at q1
    go_enter Tryz.func77, Tryz.ntmps77
    go_wp2
    go_ret
    exact ⟨rfl, rfl⟩
  · simp only [Nat.mul_one] at q1
    go_enter Tryz.func77, Tryz.ntmps77
    go_wp2
    go_ret
    exact ⟨rfl, rfl⟩
theorem on_of {A : Option Addr} {i o s : Int} {b : Bool} {w : World} (h : Calls Tryz.prog 77 #[.pointer A, .int .i64 i, .int .u8 o] w fun e w' => e = .returned (.int .i64 s) ∧ w = w') (hb : (s == 1) = b) :
    Calls Tryz.prog 34 #[.pointer A, .int .i64 i, .int .u8 o] w fun e w' => e = .returned (.bool b) ∧ w = w' := by
  subst hb
  go_enter Tryz.func34, Tryz.ntmps34
  go_wp2_with (go_at_call 77; refine h.mono ?_; rintro e w' ⟨rfl, rfl⟩)
  go_ret
  exact ⟨rfl, rfl⟩

def askOnN (s : Int) : Int := if s = 0 then 4 else if s = 2 then 3 else if s = 5 then 4 else s
def askOnW (s : Int) : Int := if s = 0 then 2 else 0
def askOnK (s : Int) : Bool := s == 0 || s == 2 || s == 5
def askOffN (s : Int) : Int := if s = 1 then 2 else if s = 3 then 2 else if s = 4 then 5 else s
def askOffW (s : Int) : Int := if s = 1 then 1 else 0
def askOffK (s : Int) : Bool := s == 1 || s == 3 || s == 4
set_option maxHeartbeats 800000 in
theorem askOn_is (b off k : Nat) (s : Int) (w : World) (hk : k < 256) (h1 : w.cell? ⟨b, off + k, none⟩ = some (.int .u8 s)) :
    Calls Tryz.prog 71 #[.pointer (some ⟨b, off, none⟩), .int .u8 (k : Int)] w fun e w' => e = .returned (.tuple #[.int .u8 (askOnN s), .int .u8 (askOnW s), .bool (askOnK s)]) ∧ w = w' := by
  have hk' : (k : Int) < 256 := by omega
  by_cases s0 : s = 0
  · subst s0
    go_enter Tryz.func71, Tryz.ntmps71
    go_wp2
    go_ret3
    exact ⟨rfl, rfl⟩
  by_cases s2 : s = 2
  · subst s2
    go_enter Tryz.func71, Tryz.ntmps71
    go_wp2
    go_ret3
    exact ⟨rfl, rfl⟩
  by_cases s5 : s = 5
  · subst s5
    go_enter Tryz.func71, Tryz.ntmps71
    go_wp2
    go_ret3
    exact ⟨rfl, rfl⟩
  have e0 : (s == 0) = false := by simpa using s0
  have e2 : (s == 2) = false := by simpa using s2
  have e5 : (s == 5) = false := by simpa using s5
  simp only [askOnN, askOnW, askOnK, s0, e0, s2, e2, s5, e5, if_false, Bool.or_self]
  go_enter Tryz.func71, Tryz.ntmps71
  go_wp2
  go_ret3
  exact ⟨rfl, rfl⟩
set_option maxHeartbeats 800000 in
theorem askOff_is (b off k : Nat) (s : Int) (w : World) (hk : k < 256) (h1 : w.cell? ⟨b, off + k, none⟩ = some (.int .u8 s)) :
    Calls Tryz.prog 72 #[.pointer (some ⟨b, off, none⟩), .int .u8 (k : Int)] w fun e w' => e = .returned (.tuple #[.int .u8 (askOffN s), .int .u8 (askOffW s), .bool (askOffK s)]) ∧ w = w' := by
  have hk' : (k : Int) < 256 := by omega
  by_cases s1 : s = 1
  · subst s1
    go_enter Tryz.func72, Tryz.ntmps72
    go_wp2
    go_ret3
    exact ⟨rfl, rfl⟩
  by_cases s3 : s = 3
  · subst s3
    go_enter Tryz.func72, Tryz.ntmps72
    go_wp2
    go_ret3
    exact ⟨rfl, rfl⟩
  by_cases s4 : s = 4
  · subst s4
    go_enter Tryz.func72, Tryz.ntmps72
    go_wp2
    go_ret3
    exact ⟨rfl, rfl⟩
  have e1 : (s == 1) = false := by simpa using s1
  have e3 : (s == 3) = false := by simpa using s3
  have e4 : (s == 4) = false := by simpa using s4
  simp only [askOffN, askOffW, askOffK, s1, e1, s3, e3, s4, e4, if_false, Bool.or_self]
  go_enter Tryz.func72, Tryz.ntmps72
  go_wp2
  go_ret3
  exact ⟨rfl, rfl⟩
end Go.Proofs.YtamfjgioajmnpaaGreatDoor
