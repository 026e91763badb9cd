/-
  A machine's memory; what option.New computes. No condition.
-/
import Derived.Test.YtmnepolfiipfcaaBytes
namespace Go.Proofs.Ytmnepolfiipfcaa
open Go.RowKit
set_option linter.unusedVariables false
set_option linter.unusedSimpArgs false

def mach0 : Array Value := (List.replicate 256 (Value.int .u8 0) ++ List.replicate 256 (Value.bool false) ++ (List.replicate 256 (Value.int .u8 0) ++ List.replicate 256 (Value.bool false))).toArray
theorem built_mach : Try.prog.built 81 [] = some mach0 := by kernel_rfl
theorem four_rows {α : Type} (a b c d : α) (k o : Nat) (ho : o < k) : let l := List.replicate k a ++ List.replicate k b ++ (List.replicate k c ++ List.replicate k d)
    l[o]? = some a ∧ l[k + o]? = some b ∧ l[k + k + o]? = some c ∧ l[k + k + k + o]? = some d := by
  refine ⟨?_, ?_, ?_, ?_⟩
  · rw [List.getElem?_append_left (by simp; omega), List.getElem?_append_left (by simp; omega), List.getElem?_replicate, if_pos (by omega)]
  · rw [List.getElem?_append_left (by simp; omega), List.getElem?_append_right (by simp), List.getElem?_replicate, if_pos (by simp; omega)]
  · rw [List.getElem?_append_right (by simp), List.getElem?_append_left (by simp; omega), List.getElem?_replicate, if_pos (by simp; omega)]
  · rw [List.getElem?_append_right (by simp; omega), List.getElem?_append_right (by simp; omega), List.getElem?_replicate, if_pos (by simp; omega)]
theorem mach0_l {i o : Nat} (hi : i < 2) (ho : o < 256) : mach0[512 * i + o]? = some (.int .u8 0) ∧ mach0[512 * i + 256 + o]? = some (.bool false) := by
  have h := four_rows (Value.int .u8 0) (Value.bool false) (Value.int .u8 0) (Value.bool false) 256 o ho
  obtain ⟨h0, h1, h2, h3⟩ := h
  obtain rfl | rfl : i = 0 ∨ i = 1 := by omega
  · refine ⟨?_, ?_⟩
    · rw [show 512 * 0 + o = o by omega]; exact (List.getElem?_toArray ..).trans h0
    · rw [show 512 * 0 + 256 + o = 256 + o by omega]; exact (List.getElem?_toArray ..).trans h1
  · refine ⟨?_, ?_⟩
    · rw [show 512 * 1 + o = 256 + 256 + o by omega]; exact (List.getElem?_toArray ..).trans h2
    · rw [show 512 * 1 + 256 + o = 256 + 256 + 256 + o by omega]; exact (List.getElem?_toArray ..).trans h3
theorem zero_mach (w : World) : (zeroValue 81).run Try.prog w = .ok (.agg mach0) w := by
  obtain ⟨i, hi, hz⟩ : ∃ i, Try.prog.info? 81 = some i ∧ i.zero = some (.agg mach0) := by
    have h : (Try.prog.info? 81).bind (·.zero) = some (.agg mach0) := by kernel_rfl
    cases hi : Try.prog.info? 81 with
    | none => rw [hi] at h; cases h
    | some i => exact ⟨i, rfl, by rw [hi] at h; exact h⟩
  simp [zeroValue, typeInfo, hi, hz]
/-- a machine's cells: its states and what it agrees to -/
def MAt (w : World) (b : Nat) (S : Nat → Nat → Int) (G : Nat → Nat → Bool) : Prop :=
  ∀ i o, i < 2 → o < 256 → (w.cell? ⟨b, 512 * i + o, none⟩ = some (.int .u8 (S i o)) ∧ w.frozen? ⟨b, 512 * i + o, none⟩ = false) ∧ w.cell? ⟨b, 512 * i + 256 + o, none⟩ = some (.bool (G i o)) ∧ w.frozen? ⟨b, 512 * i + 256 + o, none⟩ = false

theorem ad_ne {b x y : Nat} (h : x ≠ y) : (⟨b, x, none⟩ : Addr) ≠ ⟨b, y, none⟩ := fun e => h (by injection e)
theorem MAt.setG {w : World} {b : Nat} {S : Nat → Nat → Int} {G : Nat → Nat → Bool} (h : MAt w b S G) (i o : Nat) (hi : i < 2) (ho : o < 256) (g : Bool) :
    MAt (w.setCell ⟨b, 512 * i + 256 + o, none⟩ (.bool g)) b S (fun i' o' => if i' = i ∧ o' = o then g else G i' o') := by
  intro i' o' hi' ho'
  obtain ⟨⟨h1, h2⟩, h3, h4⟩ := h i' o' hi' ho'
  refine ⟨⟨?_, ?_⟩, ?_, ?_⟩
  · rw [World.cell?_setCell_other (h := (ad_ne (show 512 * i + 256 + o ≠ 512 * i' + o' by omega)))]; exact h1
  · rw [World.frozen?_setCell]; exact h2
  · by_cases e : i' = i ∧ o' = o
    · obtain ⟨rfl, rfl⟩ := e
      rw [World.cell?_setCell_same (h := h3)]; simp
    · rw [World.cell?_setCell_other (h := (ad_ne (show 512 * i + 256 + o ≠ 512 * i' + 256 + o' by omega)))]; simp only [if_neg e]; exact h3
  · rw [World.frozen?_setCell]; exact h4
theorem MAt.setS {w : World} {b : Nat} {S : Nat → Nat → Int} {G : Nat → Nat → Bool} (h : MAt w b S G) (i o : Nat) (hi : i < 2) (ho : o < 256) (s : Int) :
    MAt (w.setCell ⟨b, 512 * i + o, none⟩ (.int .u8 s)) b (fun i' o' => if i' = i ∧ o' = o then s else S i' o') G := by
  intro i' o' hi' ho'
  obtain ⟨⟨h1, h2⟩, h3, h4⟩ := h i' o' hi' ho'
  refine ⟨⟨?_, ?_⟩, ?_, ?_⟩
  · by_cases e : i' = i ∧ o' = o
    · obtain ⟨rfl, rfl⟩ := e
      rw [World.cell?_setCell_same (h := h1)]; simp
    · rw [World.cell?_setCell_other (h := (ad_ne (show 512 * i + o ≠ 512 * i' + o' by omega)))]; simp only [if_neg e]; exact h1
  · rw [World.frozen?_setCell]; exact h2
  · rw [World.cell?_setCell_other (h := (ad_ne (show 512 * i + o ≠ 512 * i' + 256 + o' by omega)))]; exact h3
  · rw [World.frozen?_setCell]; exact h4
theorem MAt.ext {w : World} {b : Nat} {S S' : Nat → Nat → Int} {G G' : Nat → Nat → Bool} (h : MAt w b S G) (hS : ∀ i o, i < 2 → o < 256 → S i o = S' i o) (hG : ∀ i o, i < 2 → o < 256 → G i o = G' i o) : MAt w b S' G' := by
  intro i o hi ho
  rw [← hS i o hi ho, ← hG i o hi ho]; exact h i o hi ho
theorem byte_nat {x : Int} (h : 0 ≤ x ∧ x ≤ 255) : ∃ k : Nat, k < 256 ∧ x = (k : Int) := ⟨x.toNat, by omega, by omega⟩
theorem bs_at {w : World} {B b off n : Nat} {l : List Int} (hr : Reads w B 1 (some ⟨b, off, none⟩) n (bs l)) (j : Nat) (hj : j < n) : w.cell? ⟨b, off + j, none⟩ = some (.int .u8 (l.getD j 0)) := by
  have hl : l.length = n := by have := hr.1; simpa [bs] using this
  obtain ⟨b', off', e, _, hc⟩ := hr.2 (by omega)
  injection e with e
  injection e with e1 e2 _
  subst e1; subst e2
  exact hc j _ (by rw [bs, List.getElem?_map, List.getD, List.getElem?_eq_getElem (show j < l.length by omega)]; rfl)
theorem take_in (l : List Int) (j : Nat) (hj : j < l.length) (o : Int) : (decide (o ∈ l.take (j + 1))) = (decide (o = l.getD j 0) || decide (o ∈ l.take j)) := by
  have e : (o ∈ l.take (j + 1)) ↔ (o = l.getD j 0 ∨ o ∈ l.take j) := by
    rw [List.take_succ_eq_append_getElem hj, List.getD, List.getElem?_eq_getElem hj, List.mem_append, List.mem_singleton, Or.comm]; rfl
  rw [decide_eq_decide.2 e, Bool.decide_or]
theorem mat_new (w : World) : MAt (w.alloc (.cells mach0 81)) w.heap.size (fun _ _ => 0) (fun _ _ => false) := by
  intro i o hi ho
  obtain ⟨h1, h2⟩ := mach0_l hi ho
  refine ⟨⟨?_, ?_⟩, ?_, ?_⟩
  · rw [World.cell?_alloc_new]; exact h1
  · simp
  · rw [World.cell?_alloc_new]; exact h2
  · simp
set_option maxRecDepth 100000 in
set_option maxHeartbeats 800000 in
theorem new_any (A1 A2 : Option Addr) (n1 n2 c1 c2 : Nat) (l1 l2 : List Int) (w : World) (hr1 : Reads w w.heap.size 1 A1 n1 (bs l1)) (hr2 : Reads w w.heap.size 1 A2 n2 (bs l2)) (hn1 : n1 ≤ 65536) (hn2 : n2 ≤ 65536) (hw1 : ∀ x ∈ l1, 0 ≤ x ∧ x ≤ 255) (hw2 : ∀ x ∈ l2, 0 ≤ x ∧ x ≤ 255) :
    Calls Try.prog 10 #[.slice A1 n1 c1, .slice A2 n2 c2] w fun e w' => e = .returned (.pointer (some ⟨w.heap.size, 0, none⟩)) ∧ MAt w' w.heap.size (fun _ _ => 0) (fun i o => if i = 0 then decide ((o : Int) ∈ l1) else decide ((o : Int) ∈ l2)) ∧ Up w w' := by
  go_enter Try.func10, Try.ntmps10
  go_wp2_with fail
  rw [zero_mach]
  go_wp2_with fail
  have hm0 := mat_new w
  have hu0 : Up w (w.alloc (.cells mach0 81)) := (Up.refl w).alloc _
  generalize w.alloc (.cells mach0 81) = w1 at *
  go_loopw [14] (fun i wr => ∃ j : Nat, j ≤ n1 ∧ i = .int .i64 (j : Int) ∧ MAt wr w.heap.size (fun _ _ => 0) (fun i o => if i = 0 then decide ((o : Int) ∈ l1.take j) else false) ∧ Up w wr) (fun i _ => n1 - (intOf i).toNat)
  case atStart => exact ⟨0, by omega, rfl, by simpa using hm0, hu0⟩
  case round =>
    obtain ⟨j, hj, rfl, hm, hu⟩ := hrel
    by_cases hlt : j < n1
    · obtain ⟨b1, off, rfl, hb⟩ := hr1.form (by omega)
      have hl1 : l1.length = n1 := by have := hr1.1; simpa [bs] using this
      have hc := bs_at (hr1.below hu) j hlt
      have htk := take_in l1 j (by omega)
      obtain ⟨k, hk, hx⟩ := byte_nat (hw1 (l1.getD j 0) (by rw [List.getD, List.getElem?_eq_getElem (by omega)]; exact List.getElem_mem _))
      rw [hx] at hc htk
      have hbw : b1 < wr.heap.size := by have := hu.size; omega
      obtain ⟨-, q3, q4⟩ := hm 0 k (by omega) hk
      have hset := hm.setG 0 k (by omega) hk true
      have HM := Lib.hid hm
      have HT := Lib.hid htk
      clear hm htk
      simp only [Nat.mul_zero, Nat.zero_add] at q3 q4 hset
      have HS := Lib.hid hset
      clear hset
      go_wp2
      go_roundw
      case rel =>
        refine ⟨j + 1, by omega, by go_num, HS.out.ext (fun _ _ _ _ => rfl) (fun i o hi ho => ?_), hu.setCell (Nat.le_refl _) _⟩
        by_cases hi0 : i = 0
        · subst hi0
          simp only [if_true, true_and, HT.out]
          by_cases e : o = k
          · subst e; simp
          · rw [if_neg e, decide_eq_false (p := (o : Int) = (k : Int)) (by omega), Bool.false_or]
        · simp only [hi0, if_false, false_and]
      case measure => simp [intOf]; omega
    · obtain rfl : j = n1 := by omega
      have hl1 : l1.length = j := by have := hr1.1; simpa [bs] using this
      rw [List.take_of_length_le (by omega)] at hm
      clear hm0 hu0
      go_wp2
      go_loopw [28] (fun i wq => ∃ q : Nat, q ≤ n2 ∧ i = .int .i64 (q : Int) ∧ MAt wq w.heap.size (fun _ _ => 0) (fun i o => if i = 0 then decide ((o : Int) ∈ l1) else decide ((o : Int) ∈ l2.take q)) ∧ Up w wq) (fun i _ => n2 - (intOf i).toNat)
      case atStart => exact ⟨0, by omega, rfl, by simpa using hm, hu⟩
      case round =>
        obtain ⟨q, hq, rfl, hm, hu⟩ := hrel
        by_cases hlt : q < n2
        · obtain ⟨b1, off, rfl, hb⟩ := hr2.form (by omega)
          have hl1 : l2.length = n2 := by have := hr2.1; simpa [bs] using this
          have hc := bs_at (hr2.below hu) q hlt
          have htk := take_in l2 q (by omega)
          obtain ⟨k, hk, hx⟩ := byte_nat (hw2 (l2.getD q 0) (by rw [List.getD, List.getElem?_eq_getElem (by omega)]; exact List.getElem_mem _))
          rw [hx] at hc htk
          have hbw : b1 < wr.heap.size := by have := hu.size; omega
          obtain ⟨-, q3, q4⟩ := hm 1 k (by omega) hk
          have hset := hm.setG 1 k (by omega) hk true
          have HM := Lib.hid hm
          have HT := Lib.hid htk
          clear hm htk
          simp only [Nat.mul_one] at q3 q4 hset
          rw [show 512 + 256 + k = 768 + k by omega] at q3 q4 hset
          have HS := Lib.hid hset
          clear hset
          go_wp2
          go_roundw
          case rel =>
            refine ⟨q + 1, by omega, by go_num, HS.out.ext (fun _ _ _ _ => rfl) (fun i o hi ho => ?_), hu.setCell (Nat.le_refl _) _⟩
            by_cases hi0 : i = 0
            · subst hi0
              simp
            · have hi1 : i = 1 := by omega
              subst hi1
              simp only [hi0, if_false, true_and, HT.out]
              by_cases e : o = k
              · subst e; simp
              · rw [if_neg e, decide_eq_false (p := (o : Int) = (k : Int)) (by omega), Bool.false_or]
          case measure => simp [intOf]; omega
        · obtain rfl : q = n2 := by omega
          have hl2 : l2.length = q := by have := hr2.1; simpa [bs] using this
          rw [List.take_of_length_le (by omega)] at hm
          go_wp2
          go_ret
          exact ⟨rfl, hm, hu⟩
end Go.Proofs.Ytmnepolfiipfcaa
