/-
  What the reference's Hear, Ask and say do at its machine. No condition.
-/
import Derived.Test.YtmnepolfiipfcaaRef08a
namespace Go.Proofs.Ytmnepolfiipfcaa
open Go.RowKit
set_option linter.unusedVariables false
set_option linter.unusedSimpArgs false

set_option maxHeartbeats 800000 in
theorem rsay_is {i x o : Int} (w : World) (hi : i = 0 ∨ i = 1) (hw : x + 1 = 0 ∨ x + 1 = 1 ∨ x + 1 = 2) :
    Calls Try.prog 38 #[.int .i64 i, .int .i64 x, .int .u8 o] w fun e w' => ∃ A n c, e = .returned (.slice A n c) ∧ n = (sayL i (x + 1) o).length ∧ Reads w' w'.heap.size 2 A n (ms (sayL i (x + 1) o)) ∧ (∀ p, A = some p → w.heap.size ≤ p.block) ∧ Up w w' := by
  have hx : x = -1 ∨ x = 0 ∨ x = 1 := by omega
  clear hw
  rcases hx with rfl | rfl | rfl
  · go_enter Try.func38, Try.ntmps38
    go_wp2
    go_ret
    exact ⟨none, 0, 0, rfl, rfl, reads_two _ _, (fun p h => by cases h), by (repeat (first | with_reducible exact Up.refl _ | with_reducible refine Up.alloc ?_ _ | with_reducible refine Up.drew ?_ | with_reducible refine Up.drewN ?_ _ | with_reducible refine Up.setCell ?_ (by (try simp) <;> omega) _ | with_reducible assumption | with_reducible refine Up.trans ?_ (by assumption)))⟩
  all_goals
    rcases hi with rfl | rfl
    all_goals
      go_enter Try.func38, Try.ntmps38
      go_wp2
      go_ret
      exact ⟨_, 1, 1, rfl, rfl, reads_lit2 _ _ _ _ 1 rfl rfl _ (by simp), (fun p h => by cases h; simp), by (repeat (first | with_reducible exact Up.refl _ | with_reducible refine Up.alloc ?_ _ | with_reducible refine Up.drew ?_ | with_reducible refine Up.drewN ?_ _ | with_reducible refine Up.setCell ?_ (by (try simp) <;> omega) _ | with_reducible assumption | with_reducible refine Up.trans ?_ (by assumption)))⟩
theorem RAt.up {w w' : World} {b : Nat} {S : Nat → Nat → Int} {G : Nat → Nat → Bool} (h : RAt w b S G) (hu : Up w w') (hb : b < w.heap.size) : RAt w' b S G := by
  intro i o hi ho
  obtain ⟨⟨h1, h2⟩, h3, h4⟩ := h i o hi ho
  have hc := hu.at_ b hb
  exact ⟨⟨(hc.1 _).trans h1, (hc.2 _).trans h2⟩, (hc.1 _).trans h3, (hc.2 _).trans h4⟩
theorem RAt.kept {w w' : World} {b : Nat} {S : Nat → Nat → Int} {G : Nat → Nat → Bool} {E : Nat → Prop} (h : RAt w b S G) (hk : Keep E w w') (hb : b < w.heap.size) (he : ¬ E b) : RAt w' b S G := by
  intro i o hi ho
  obtain ⟨⟨h1, h2⟩, h3, h4⟩ := h i o hi ho
  have hc := hk.at_ b hb he
  exact ⟨⟨(hc.1 _).trans h1, (hc.2 _).trans h2⟩, (hc.1 _).trans h3, (hc.2 _).trans h4⟩
def RAnsPost (b : Nat) (S' : Nat → Nat → Int) (G : Nat → Nat → Bool) (L : List (Int × Int)) (E : Int) (w : World) (e : Ending) (w' : World) : Prop :=
  ∃ A n c, e = .returned (.tuple #[.slice A n c, .int .i64 E]) ∧ n = L.length ∧ Reads w' w'.heap.size 2 A n (ms L) ∧ (∀ p, A = some p → w.heap.size ≤ p.block) ∧ RAt w' b S' G ∧ Near b w w'
theorem six_of {s : Int} (h : 0 ≤ s ∧ s ≤ 5) : s = 0 ∨ s = 1 ∨ s = 2 ∨ s = 3 ∨ s = 4 ∨ s = 5 := by omega
set_option maxRecDepth 100000 in
set_option maxHeartbeats 6400000 in
theorem rhear_251 (b k : Nat) (S : Nat → Nat → Int) (G : Nat → Nat → Bool) (w : World) (hm : RAt w b S G) (hb : b < w.heap.size) (hk : k < 256) (hs : 0 ≤ S 1 k ∧ S 1 k ≤ 5) :
    Calls Try.prog 24 #[.pointer (some ⟨b, 0, none⟩), .int .u8 251, .int .u8 (k : Int)] w (RAnsPost b (hearS 251 k S G) G (hearL 251 k S G) 0 w) := by
  obtain ⟨⟨q1, q2⟩, q3, q4⟩ := hm 1 k (by omega) hk
  have hk' : (k : Int) < 256 := by omega
  have hset : ∀ w2, Up w w2 → RAt _ b _ G := fun w2 hu => (hm.up hu hb).setS 1 k (by omega) hk (nextOf 251 (S 1 k) (G 1 k))
  have e1 : hearS 251 k S G = fun i' o' => if i' = 1 ∧ o' = k then nextOf 251 (S 1 k) (G 1 k) else S i' o' := rfl
  have e2 : hearL 251 k S G = sayL 1 (wordOf 251 (S 1 k) (G 1 k)) k := rfl
  rw [e1, e2]
  simp only [Nat.mul_zero, Nat.zero_add, Nat.mul_one, Nat.add_zero, show 512 + 256 + k = 768 + k by omega] at q1 q2 q3 q4 hset
  generalize hF : (fun i' o' => if i' = 1 ∧ o' = k then nextOf 251 (S 1 k) (G 1 k) else S i' o') = F at hset ⊢
  clear hF e1 e2
  generalize S 1 k = s at *
  generalize G 1 k = g at *
  have HM := Lib.hid hset
  clear hm hset
  rcases six_of hs with rfl | rfl | rfl | rfl | rfl | rfl
  all_goals
    cases g
    all_goals
      go_enter Try.func24, Try.ntmps24
      go_wp2_with fail
      refine (rsay_is _ (by omega) (by omega)).mono ?_
      rintro e w3 ⟨A, n, c, rfl, rfl, hr, hnew, hu⟩
      go_wp2_with fail
      go_ret2
      refine ⟨A, _, c, rfl, rfl, hr, (fun p h => ?_), ?_, ?_⟩
      · have := hnew p h; simp at this; omega
      · exact (HM.out w (Up.refl w)).up (((Up.refl _).alloc _).trans hu) (by simp [World.setCell]; omega)
      · exact (((Keep.refl (fun k => k = b) w).setCell (p := ⟨b, _, none⟩) (.inl rfl) _).up (((Up.refl _).alloc _).trans hu) : Keep _ w w3)
set_option maxRecDepth 100000 in
set_option maxHeartbeats 6400000 in
theorem rhear_252 (b k : Nat) (S : Nat → Nat → Int) (G : Nat → Nat → Bool) (w : World) (hm : RAt w b S G) (hb : b < w.heap.size) (hk : k < 256) (hs : 0 ≤ S 1 k ∧ S 1 k ≤ 5) :
    Calls Try.prog 24 #[.pointer (some ⟨b, 0, none⟩), .int .u8 252, .int .u8 (k : Int)] w (RAnsPost b (hearS 252 k S G) G (hearL 252 k S G) 0 w) := by
  obtain ⟨⟨q1, q2⟩, q3, q4⟩ := hm 1 k (by omega) hk
  have hk' : (k : Int) < 256 := by omega
  have hset : ∀ w2, Up w w2 → RAt _ b _ G := fun w2 hu => (hm.up hu hb).setS 1 k (by omega) hk (nextOf 252 (S 1 k) (G 1 k))
  have e1 : hearS 252 k S G = fun i' o' => if i' = 1 ∧ o' = k then nextOf 252 (S 1 k) (G 1 k) else S i' o' := rfl
  have e2 : hearL 252 k S G = sayL 1 (wordOf 252 (S 1 k) (G 1 k)) k := rfl
  rw [e1, e2]
  simp only [Nat.mul_zero, Nat.zero_add, Nat.mul_one, Nat.add_zero, show 512 + 256 + k = 768 + k by omega] at q1 q2 q3 q4 hset
  generalize hF : (fun i' o' => if i' = 1 ∧ o' = k then nextOf 252 (S 1 k) (G 1 k) else S i' o') = F at hset ⊢
  clear hF e1 e2
  generalize S 1 k = s at *
  generalize G 1 k = g at *
  have HM := Lib.hid hset
  clear hm hset
  rcases six_of hs with rfl | rfl | rfl | rfl | rfl | rfl
  all_goals
    cases g
    all_goals
      go_enter Try.func24, Try.ntmps24
      go_wp2_with fail
      refine (rsay_is _ (by omega) (by omega)).mono ?_
      rintro e w3 ⟨A, n, c, rfl, rfl, hr, hnew, hu⟩
      go_wp2_with fail
      go_ret2
      refine ⟨A, _, c, rfl, rfl, hr, (fun p h => ?_), ?_, ?_⟩
      · have := hnew p h; simp at this; omega
      · exact (HM.out w (Up.refl w)).up (((Up.refl _).alloc _).trans hu) (by simp [World.setCell]; omega)
      · exact (((Keep.refl (fun k => k = b) w).setCell (p := ⟨b, _, none⟩) (.inl rfl) _).up (((Up.refl _).alloc _).trans hu) : Keep _ w w3)
set_option maxRecDepth 100000 in
set_option maxHeartbeats 6400000 in
theorem rhear_253 (b k : Nat) (S : Nat → Nat → Int) (G : Nat → Nat → Bool) (w : World) (hm : RAt w b S G) (hb : b < w.heap.size) (hk : k < 256) (hs : 0 ≤ S 0 k ∧ S 0 k ≤ 5) :
    Calls Try.prog 24 #[.pointer (some ⟨b, 0, none⟩), .int .u8 253, .int .u8 (k : Int)] w (RAnsPost b (hearS 253 k S G) G (hearL 253 k S G) 0 w) := by
  obtain ⟨⟨q1, q2⟩, q3, q4⟩ := hm 0 k (by omega) hk
  have hk' : (k : Int) < 256 := by omega
  have hset : ∀ w2, Up w w2 → RAt _ b _ G := fun w2 hu => (hm.up hu hb).setS 0 k (by omega) hk (nextOf 253 (S 0 k) (G 0 k))
  have e1 : hearS 253 k S G = fun i' o' => if i' = 0 ∧ o' = k then nextOf 253 (S 0 k) (G 0 k) else S i' o' := rfl
  have e2 : hearL 253 k S G = sayL 0 (wordOf 253 (S 0 k) (G 0 k)) k := rfl
  rw [e1, e2]
  simp only [Nat.mul_zero, Nat.zero_add, Nat.mul_one, Nat.add_zero, show 512 + 256 + k = 768 + k by omega] at q1 q2 q3 q4 hset
  generalize hF : (fun i' o' => if i' = 0 ∧ o' = k then nextOf 253 (S 0 k) (G 0 k) else S i' o') = F at hset ⊢
  clear hF e1 e2
  generalize S 0 k = s at *
  generalize G 0 k = g at *
  have HM := Lib.hid hset
  clear hm hset
  rcases six_of hs with rfl | rfl | rfl | rfl | rfl | rfl
  all_goals
    cases g
    all_goals
      go_enter Try.func24, Try.ntmps24
      go_wp2_with fail
      refine (rsay_is _ (by omega) (by omega)).mono ?_
      rintro e w3 ⟨A, n, c, rfl, rfl, hr, hnew, hu⟩
      go_wp2_with fail
      go_ret2
      refine ⟨A, _, c, rfl, rfl, hr, (fun p h => ?_), ?_, ?_⟩
      · have := hnew p h; simp at this; omega
      · exact (HM.out w (Up.refl w)).up (((Up.refl _).alloc _).trans hu) (by simp [World.setCell]; omega)
      · exact (((Keep.refl (fun k => k = b) w).setCell (p := ⟨b, _, none⟩) (.inl rfl) _).up (((Up.refl _).alloc _).trans hu) : Keep _ w w3)
set_option maxRecDepth 100000 in
set_option maxHeartbeats 6400000 in
theorem rhear_254 (b k : Nat) (S : Nat → Nat → Int) (G : Nat → Nat → Bool) (w : World) (hm : RAt w b S G) (hb : b < w.heap.size) (hk : k < 256) (hs : 0 ≤ S 0 k ∧ S 0 k ≤ 5) :
    Calls Try.prog 24 #[.pointer (some ⟨b, 0, none⟩), .int .u8 254, .int .u8 (k : Int)] w (RAnsPost b (hearS 254 k S G) G (hearL 254 k S G) 0 w) := by
  obtain ⟨⟨q1, q2⟩, q3, q4⟩ := hm 0 k (by omega) hk
  have hk' : (k : Int) < 256 := by omega
  have hset : ∀ w2, Up w w2 → RAt _ b _ G := fun w2 hu => (hm.up hu hb).setS 0 k (by omega) hk (nextOf 254 (S 0 k) (G 0 k))
  have e1 : hearS 254 k S G = fun i' o' => if i' = 0 ∧ o' = k then nextOf 254 (S 0 k) (G 0 k) else S i' o' := rfl
  have e2 : hearL 254 k S G = sayL 0 (wordOf 254 (S 0 k) (G 0 k)) k := rfl
  rw [e1, e2]
  simp only [Nat.mul_zero, Nat.zero_add, Nat.mul_one, Nat.add_zero, show 512 + 256 + k = 768 + k by omega] at q1 q2 q3 q4 hset
  generalize hF : (fun i' o' => if i' = 0 ∧ o' = k then nextOf 254 (S 0 k) (G 0 k) else S i' o') = F at hset ⊢
  clear hF e1 e2
  generalize S 0 k = s at *
  generalize G 0 k = g at *
  have HM := Lib.hid hset
  clear hm hset
  rcases six_of hs with rfl | rfl | rfl | rfl | rfl | rfl
  all_goals
    cases g
    all_goals
      go_enter Try.func24, Try.ntmps24
      go_wp2_with fail
      refine (rsay_is _ (by omega) (by omega)).mono ?_
      rintro e w3 ⟨A, n, c, rfl, rfl, hr, hnew, hu⟩
      go_wp2_with fail
      go_ret2
      refine ⟨A, _, c, rfl, rfl, hr, (fun p h => ?_), ?_, ?_⟩
      · have := hnew p h; simp at this; omega
      · exact (HM.out w (Up.refl w)).up (((Up.refl _).alloc _).trans hu) (by simp [World.setCell]; omega)
      · exact (((Keep.refl (fun k => k = b) w).setCell (p := ⟨b, _, none⟩) (.inl rfl) _).up (((Up.refl _).alloc _).trans hu) : Keep _ w w3)
set_option maxRecDepth 100000 in
set_option maxHeartbeats 6400000 in
theorem rask_0false (b k : Nat) (S : Nat → Nat → Int) (G : Nat → Nat → Bool) (w : World) (hm : RAt w b S G) (hb : b < w.heap.size) (hk : k < 256) (hs : 0 ≤ S 0 k ∧ S 0 k ≤ 5) :
    Calls Try.prog 25 #[.pointer (some ⟨b, 0, none⟩), .int .i64 0, .int .u8 (k : Int), .bool false] w (RAnsPost b (askS 0 k false S) G (askL 0 k false S) (askE 0 k false S) w) := by
  have hm0 := hm
  obtain ⟨⟨q1, q2⟩, q3, q4⟩ := hm 0 k (by omega) hk
  have hk' : (k : Int) < 256 := by omega
  have hset : ∀ w2, Up w w2 → RAt _ b _ G := fun w2 hu => (hm.up hu hb).setS 0 k (by omega) hk (askN false (S 0 k))
  have hsame : (fun i' o' => if i' = 0 ∧ o' = k then S 0 k else S i' o') = S := by
    funext i' o'
    by_cases h : i' = 0 ∧ o' = k
    · obtain ⟨rfl, rfl⟩ := h; simp
    · simp only [if_neg h]
  have e1 : askS 0 k false S = fun i' o' => if i' = 0 ∧ o' = k then askN false (S 0 k) else S i' o' := rfl
  have e2 : askL 0 k false S = if askK false (S 0 k) then sayL 0 (askW false (S 0 k)) k else [] := rfl
  have e3 : askE 0 k false S = if askK false (S 0 k) then 0 else 6 := rfl
  rw [e1, e2, e3]
  simp only [Nat.mul_zero, Nat.zero_add, Nat.mul_one, Nat.add_zero, show 512 + 256 + k = 768 + k by omega] at q1 q2 q3 q4 hset
  have hF : ∀ x, x = S 0 k → RAt w b (fun i' o' => if i' = 0 ∧ o' = k then x else S i' o') G := fun x hx => by subst hx; rw [hsame]; exact hm0
  generalize hF2 : (fun i' o' => if i' = 0 ∧ o' = k then askN false (S 0 k) else S i' o') = F at hset ⊢
  have hF3 : askN false (S 0 k) = S 0 k → RAt w b F G := fun h => by rw [← hF2]; exact hF _ h
  clear hF2 e1 e2 e3 hsame hF hm0
  generalize S 0 k = s at *
  have HM := Lib.hid hset
  have HF := Lib.hid hF3
  clear hm hset hF3 q3 q4
  rcases six_of hs with rfl | rfl | rfl | rfl | rfl | rfl
  all_goals
    go_enter Try.func25, Try.ntmps25
    go_wp2_with fail
    first
    | (go_ret2; exact ⟨none, 0, 0, rfl, rfl, reads_two _ _, (fun p h => by cases h), (HF.out rfl).up (by (repeat (first | with_reducible exact Up.refl _ | with_reducible refine Up.alloc ?_ _ | with_reducible refine Up.drew ?_ | with_reducible refine Up.drewN ?_ _ | with_reducible refine Up.setCell ?_ (by (try simp) <;> omega) _ | with_reducible assumption | with_reducible refine Up.trans ?_ (by assumption)))) hb, Keep.of_up (by (repeat (first | with_reducible exact Up.refl _ | with_reducible refine Up.alloc ?_ _ | with_reducible refine Up.drew ?_ | with_reducible refine Up.drewN ?_ _ | with_reducible refine Up.setCell ?_ (by (try simp) <;> omega) _ | with_reducible assumption | with_reducible refine Up.trans ?_ (by assumption))))⟩)
    | (refine (rsay_is _ (by omega) (by omega)).mono ?_
       rintro e w3 ⟨A, n, c, rfl, rfl, hr, hnew, hu⟩
       go_wp2_with fail
       go_ret2
       refine ⟨A, _, c, rfl, rfl, hr, (fun p h => ?_), ?_, ?_⟩
       · have := hnew p h; simp at this; omega
       · first | exact (HM.out w (Up.refl w)).up (((Up.refl _).alloc _).trans hu) (by simp [World.setCell]; omega) | exact (HM.out w (Up.refl w)).up ((((Up.refl _).alloc _).alloc _).trans hu) (by simp [World.setCell]; omega)
       · first | exact (((Keep.refl (fun k => k = b) w).setCell (p := ⟨b, _, none⟩) (.inl rfl) _).up (((Up.refl _).alloc _).trans hu) : Keep _ w w3) | exact (((Keep.refl (fun k => k = b) w).setCell (p := ⟨b, _, none⟩) (.inl rfl) _).up ((((Up.refl _).alloc _).alloc _).trans hu) : Keep _ w w3))
set_option maxRecDepth 100000 in
set_option maxHeartbeats 6400000 in
theorem rask_0true (b k : Nat) (S : Nat → Nat → Int) (G : Nat → Nat → Bool) (w : World) (hm : RAt w b S G) (hb : b < w.heap.size) (hk : k < 256) (hs : 0 ≤ S 0 k ∧ S 0 k ≤ 5) :
    Calls Try.prog 25 #[.pointer (some ⟨b, 0, none⟩), .int .i64 0, .int .u8 (k : Int), .bool true] w (RAnsPost b (askS 0 k true S) G (askL 0 k true S) (askE 0 k true S) w) := by
  have hm0 := hm
  obtain ⟨⟨q1, q2⟩, q3, q4⟩ := hm 0 k (by omega) hk
  have hk' : (k : Int) < 256 := by omega
  have hset : ∀ w2, Up w w2 → RAt _ b _ G := fun w2 hu => (hm.up hu hb).setS 0 k (by omega) hk (askN true (S 0 k))
  have hsame : (fun i' o' => if i' = 0 ∧ o' = k then S 0 k else S i' o') = S := by
    funext i' o'
    by_cases h : i' = 0 ∧ o' = k
    · obtain ⟨rfl, rfl⟩ := h; simp
    · simp only [if_neg h]
  have e1 : askS 0 k true S = fun i' o' => if i' = 0 ∧ o' = k then askN true (S 0 k) else S i' o' := rfl
  have e2 : askL 0 k true S = if askK true (S 0 k) then sayL 0 (askW true (S 0 k)) k else [] := rfl
  have e3 : askE 0 k true S = if askK true (S 0 k) then 0 else 6 := rfl
  rw [e1, e2, e3]
  simp only [Nat.mul_zero, Nat.zero_add, Nat.mul_one, Nat.add_zero, show 512 + 256 + k = 768 + k by omega] at q1 q2 q3 q4 hset
  have hF : ∀ x, x = S 0 k → RAt w b (fun i' o' => if i' = 0 ∧ o' = k then x else S i' o') G := fun x hx => by subst hx; rw [hsame]; exact hm0
  generalize hF2 : (fun i' o' => if i' = 0 ∧ o' = k then askN true (S 0 k) else S i' o') = F at hset ⊢
  have hF3 : askN true (S 0 k) = S 0 k → RAt w b F G := fun h => by rw [← hF2]; exact hF _ h
  clear hF2 e1 e2 e3 hsame hF hm0
  generalize S 0 k = s at *
  have HM := Lib.hid hset
  have HF := Lib.hid hF3
  clear hm hset hF3 q3 q4
  rcases six_of hs with rfl | rfl | rfl | rfl | rfl | rfl
  all_goals
    go_enter Try.func25, Try.ntmps25
    go_wp2_with fail
    first
    | (go_ret2; exact ⟨none, 0, 0, rfl, rfl, reads_two _ _, (fun p h => by cases h), (HF.out rfl).up (by (repeat (first | with_reducible exact Up.refl _ | with_reducible refine Up.alloc ?_ _ | with_reducible refine Up.drew ?_ | with_reducible refine Up.drewN ?_ _ | with_reducible refine Up.setCell ?_ (by (try simp) <;> omega) _ | with_reducible assumption | with_reducible refine Up.trans ?_ (by assumption)))) hb, Keep.of_up (by (repeat (first | with_reducible exact Up.refl _ | with_reducible refine Up.alloc ?_ _ | with_reducible refine Up.drew ?_ | with_reducible refine Up.drewN ?_ _ | with_reducible refine Up.setCell ?_ (by (try simp) <;> omega) _ | with_reducible assumption | with_reducible refine Up.trans ?_ (by assumption))))⟩)
    | (refine (rsay_is _ (by omega) (by omega)).mono ?_
       rintro e w3 ⟨A, n, c, rfl, rfl, hr, hnew, hu⟩
       go_wp2_with fail
       go_ret2
       refine ⟨A, _, c, rfl, rfl, hr, (fun p h => ?_), ?_, ?_⟩
       · have := hnew p h; simp at this; omega
       · first | exact (HM.out w (Up.refl w)).up (((Up.refl _).alloc _).trans hu) (by simp [World.setCell]; omega) | exact (HM.out w (Up.refl w)).up ((((Up.refl _).alloc _).alloc _).trans hu) (by simp [World.setCell]; omega)
       · first | exact (((Keep.refl (fun k => k = b) w).setCell (p := ⟨b, _, none⟩) (.inl rfl) _).up (((Up.refl _).alloc _).trans hu) : Keep _ w w3) | exact (((Keep.refl (fun k => k = b) w).setCell (p := ⟨b, _, none⟩) (.inl rfl) _).up ((((Up.refl _).alloc _).alloc _).trans hu) : Keep _ w w3))
set_option maxRecDepth 100000 in
set_option maxHeartbeats 6400000 in
theorem rask_1false (b k : Nat) (S : Nat → Nat → Int) (G : Nat → Nat → Bool) (w : World) (hm : RAt w b S G) (hb : b < w.heap.size) (hk : k < 256) (hs : 0 ≤ S 1 k ∧ S 1 k ≤ 5) :
    Calls Try.prog 25 #[.pointer (some ⟨b, 0, none⟩), .int .i64 1, .int .u8 (k : Int), .bool false] w (RAnsPost b (askS 1 k false S) G (askL 1 k false S) (askE 1 k false S) w) := by
  have hm0 := hm
  obtain ⟨⟨q1, q2⟩, q3, q4⟩ := hm 1 k (by omega) hk
  have hk' : (k : Int) < 256 := by omega
  have hset : ∀ w2, Up w w2 → RAt _ b _ G := fun w2 hu => (hm.up hu hb).setS 1 k (by omega) hk (askN false (S 1 k))
  have hsame : (fun i' o' => if i' = 1 ∧ o' = k then S 1 k else S i' o') = S := by
    funext i' o'
    by_cases h : i' = 1 ∧ o' = k
    · obtain ⟨rfl, rfl⟩ := h; simp
    · simp only [if_neg h]
  have e1 : askS 1 k false S = fun i' o' => if i' = 1 ∧ o' = k then askN false (S 1 k) else S i' o' := rfl
  have e2 : askL 1 k false S = if askK false (S 1 k) then sayL 1 (askW false (S 1 k)) k else [] := rfl
  have e3 : askE 1 k false S = if askK false (S 1 k) then 0 else 6 := rfl
  rw [e1, e2, e3]
  simp only [Nat.mul_zero, Nat.zero_add, Nat.mul_one, Nat.add_zero, show 512 + 256 + k = 768 + k by omega] at q1 q2 q3 q4 hset
  have hF : ∀ x, x = S 1 k → RAt w b (fun i' o' => if i' = 1 ∧ o' = k then x else S i' o') G := fun x hx => by subst hx; rw [hsame]; exact hm0
  generalize hF2 : (fun i' o' => if i' = 1 ∧ o' = k then askN false (S 1 k) else S i' o') = F at hset ⊢
  have hF3 : askN false (S 1 k) = S 1 k → RAt w b F G := fun h => by rw [← hF2]; exact hF _ h
  clear hF2 e1 e2 e3 hsame hF hm0
  generalize S 1 k = s at *
  have HM := Lib.hid hset
  have HF := Lib.hid hF3
  clear hm hset hF3 q3 q4
  rcases six_of hs with rfl | rfl | rfl | rfl | rfl | rfl
  all_goals
    go_enter Try.func25, Try.ntmps25
    go_wp2_with fail
    first
    | (go_ret2; exact ⟨none, 0, 0, rfl, rfl, reads_two _ _, (fun p h => by cases h), (HF.out rfl).up (by (repeat (first | with_reducible exact Up.refl _ | with_reducible refine Up.alloc ?_ _ | with_reducible refine Up.drew ?_ | with_reducible refine Up.drewN ?_ _ | with_reducible refine Up.setCell ?_ (by (try simp) <;> omega) _ | with_reducible assumption | with_reducible refine Up.trans ?_ (by assumption)))) hb, Keep.of_up (by (repeat (first | with_reducible exact Up.refl _ | with_reducible refine Up.alloc ?_ _ | with_reducible refine Up.drew ?_ | with_reducible refine Up.drewN ?_ _ | with_reducible refine Up.setCell ?_ (by (try simp) <;> omega) _ | with_reducible assumption | with_reducible refine Up.trans ?_ (by assumption))))⟩)
    | (refine (rsay_is _ (by omega) (by omega)).mono ?_
       rintro e w3 ⟨A, n, c, rfl, rfl, hr, hnew, hu⟩
       go_wp2_with fail
       go_ret2
       refine ⟨A, _, c, rfl, rfl, hr, (fun p h => ?_), ?_, ?_⟩
       · have := hnew p h; simp at this; omega
       · first | exact (HM.out w (Up.refl w)).up (((Up.refl _).alloc _).trans hu) (by simp [World.setCell]; omega) | exact (HM.out w (Up.refl w)).up ((((Up.refl _).alloc _).alloc _).trans hu) (by simp [World.setCell]; omega)
       · first | exact (((Keep.refl (fun k => k = b) w).setCell (p := ⟨b, _, none⟩) (.inl rfl) _).up (((Up.refl _).alloc _).trans hu) : Keep _ w w3) | exact (((Keep.refl (fun k => k = b) w).setCell (p := ⟨b, _, none⟩) (.inl rfl) _).up ((((Up.refl _).alloc _).alloc _).trans hu) : Keep _ w w3))
set_option maxRecDepth 100000 in
set_option maxHeartbeats 6400000 in
theorem rask_1true (b k : Nat) (S : Nat → Nat → Int) (G : Nat → Nat → Bool) (w : World) (hm : RAt w b S G) (hb : b < w.heap.size) (hk : k < 256) (hs : 0 ≤ S 1 k ∧ S 1 k ≤ 5) :
    Calls Try.prog 25 #[.pointer (some ⟨b, 0, none⟩), .int .i64 1, .int .u8 (k : Int), .bool true] w (RAnsPost b (askS 1 k true S) G (askL 1 k true S) (askE 1 k true S) w) := by
  have hm0 := hm
  obtain ⟨⟨q1, q2⟩, q3, q4⟩ := hm 1 k (by omega) hk
  have hk' : (k : Int) < 256 := by omega
  have hset : ∀ w2, Up w w2 → RAt _ b _ G := fun w2 hu => (hm.up hu hb).setS 1 k (by omega) hk (askN true (S 1 k))
  have hsame : (fun i' o' => if i' = 1 ∧ o' = k then S 1 k else S i' o') = S := by
    funext i' o'
    by_cases h : i' = 1 ∧ o' = k
    · obtain ⟨rfl, rfl⟩ := h; simp
    · simp only [if_neg h]
  have e1 : askS 1 k true S = fun i' o' => if i' = 1 ∧ o' = k then askN true (S 1 k) else S i' o' := rfl
  have e2 : askL 1 k true S = if askK true (S 1 k) then sayL 1 (askW true (S 1 k)) k else [] := rfl
  have e3 : askE 1 k true S = if askK true (S 1 k) then 0 else 6 := rfl
  rw [e1, e2, e3]
  simp only [Nat.mul_zero, Nat.zero_add, Nat.mul_one, Nat.add_zero, show 512 + 256 + k = 768 + k by omega] at q1 q2 q3 q4 hset
  have hF : ∀ x, x = S 1 k → RAt w b (fun i' o' => if i' = 1 ∧ o' = k then x else S i' o') G := fun x hx => by subst hx; rw [hsame]; exact hm0
  generalize hF2 : (fun i' o' => if i' = 1 ∧ o' = k then askN true (S 1 k) else S i' o') = F at hset ⊢
  have hF3 : askN true (S 1 k) = S 1 k → RAt w b F G := fun h => by rw [← hF2]; exact hF _ h
  clear hF2 e1 e2 e3 hsame hF hm0
  generalize S 1 k = s at *
  have HM := Lib.hid hset
  have HF := Lib.hid hF3
  clear hm hset hF3 q3 q4
  rcases six_of hs with rfl | rfl | rfl | rfl | rfl | rfl
  all_goals
    go_enter Try.func25, Try.ntmps25
    go_wp2_with fail
    first
    | (go_ret2; exact ⟨none, 0, 0, rfl, rfl, reads_two _ _, (fun p h => by cases h), (HF.out rfl).up (by (repeat (first | with_reducible exact Up.refl _ | with_reducible refine Up.alloc ?_ _ | with_reducible refine Up.drew ?_ | with_reducible refine Up.drewN ?_ _ | with_reducible refine Up.setCell ?_ (by (try simp) <;> omega) _ | with_reducible assumption | with_reducible refine Up.trans ?_ (by assumption)))) hb, Keep.of_up (by (repeat (first | with_reducible exact Up.refl _ | with_reducible refine Up.alloc ?_ _ | with_reducible refine Up.drew ?_ | with_reducible refine Up.drewN ?_ _ | with_reducible refine Up.setCell ?_ (by (try simp) <;> omega) _ | with_reducible assumption | with_reducible refine Up.trans ?_ (by assumption))))⟩)
    | (refine (rsay_is _ (by omega) (by omega)).mono ?_
       rintro e w3 ⟨A, n, c, rfl, rfl, hr, hnew, hu⟩
       go_wp2_with fail
       go_ret2
       refine ⟨A, _, c, rfl, rfl, hr, (fun p h => ?_), ?_, ?_⟩
       · have := hnew p h; simp at this; omega
       · first | exact (HM.out w (Up.refl w)).up (((Up.refl _).alloc _).trans hu) (by simp [World.setCell]; omega) | exact (HM.out w (Up.refl w)).up ((((Up.refl _).alloc _).alloc _).trans hu) (by simp [World.setCell]; omega)
       · first | exact (((Keep.refl (fun k => k = b) w).setCell (p := ⟨b, _, none⟩) (.inl rfl) _).up (((Up.refl _).alloc _).trans hu) : Keep _ w w3) | exact (((Keep.refl (fun k => k = b) w).setCell (p := ⟨b, _, none⟩) (.inl rfl) _).up ((((Up.refl _).alloc _).alloc _).trans hu) : Keep _ w w3))
set_option maxHeartbeats 800000 in
theorem rhear_other (A : Option Addr) (v o : Int) (w : World) (hv : ¬ isVerb v) (h0 : 0 ≤ v) (h1 : v ≤ 255) :
    Calls Try.prog 24 #[.pointer A, .int .u8 v, .int .u8 o] w fun e w' => e = .returned (.tuple #[.slice none 0 0, .int .i64 1]) ∧ w = w' := by
  have hr : v < 251 ∨ v = 255 := by unfold isVerb at hv; omega
  clear hv
  rcases hr with hr | rfl
  all_goals
    go_enter Try.func24, Try.ntmps24
    go_wp2
    go_ret2
    exact ⟨rfl, rfl⟩
set_option maxHeartbeats 800000 in
theorem rask_other (A : Option Addr) (i o : Int) (t : Bool) (w : World) (hi : ¬ isSide i) :
    Calls Try.prog 25 #[.pointer A, .int .i64 i, .int .u8 o, .bool t] w fun e w' => e = .returned (.tuple #[.slice none 0 0, .int .i64 1]) ∧ w = w' := by
  have e1 : (i != 0) = true := by simp; exact fun h => hi (.inl h)
  have e2 : (i != 1) = true := by simp; exact fun h => hi (.inr h)
  go_enter Try.func25, Try.ntmps25
  go_wp2
  go_ret2
  exact ⟨rfl, rfl⟩
theorem rhear_at {b : Nat} {v o : Int} {S : Nat → Nat → Int} {G : Nat → Nat → Bool} {w : World} (k : Nat) (hm : RAt w b S G) (hS : okS S) (hb : b < w.heap.size) (hk : k < 256) (h0 : 0 ≤ v) (h1 : v ≤ 255) (ho : o = (k : Int)) :
    Calls Try.prog 24 #[.pointer (some ⟨b, 0, none⟩), .int .u8 v, .int .u8 o] w (RAnsPost b (hearS v k S G) G (hearL v k S G) (hearE v) w) := by
  subst ho
  by_cases hv : isVerb v
  · have he : hearE v = 0 := if_pos hv
    rw [he]
    rcases hv with rfl | rfl | rfl | rfl
    · exact rhear_251 b k S G w hm hb hk (hS _ _)
    · exact rhear_252 b k S G w hm hb hk (hS _ _)
    · exact rhear_253 b k S G w hm hb hk (hS _ _)
    · exact rhear_254 b k S G w hm hb hk (hS _ _)
  · simp only [hearS, hearL, hearE, if_neg hv]
    refine (rhear_other _ v k w hv h0 h1).mono ?_
    rintro e w' ⟨rfl, rfl⟩
    exact ⟨none, 0, 0, rfl, rfl, reads_two _ _, (fun p h => by cases h), hm, Near.refl _ _⟩
theorem rask_at {b : Nat} {i o : Int} {t : Bool} {S : Nat → Nat → Int} {G : Nat → Nat → Bool} {w : World} (k : Nat) (hm : RAt w b S G) (hS : okS S) (hb : b < w.heap.size) (hk : k < 256) (ho : o = (k : Int)) :
    Calls Try.prog 25 #[.pointer (some ⟨b, 0, none⟩), .int .i64 i, .int .u8 o, .bool t] w (RAnsPost b (askS i k t S) G (askL i k t S) (askE i k t S) w) := by
  subst ho
  by_cases hi : isSide i
  · rcases hi with rfl | rfl
    · cases t
      · exact rask_0false b k S G w hm hb hk (hS _ _)
      · exact rask_0true b k S G w hm hb hk (hS _ _)
    · cases t
      · exact rask_1false b k S G w hm hb hk (hS _ _)
      · exact rask_1true b k S G w hm hb hk (hS _ _)
  · simp only [askS, askL, askE, if_neg hi]
    refine (rask_other _ i k t w hi).mono ?_
    rintro e w' ⟨rfl, rfl⟩
    exact ⟨none, 0, 0, rfl, rfl, reads_two _ _, (fun p h => by cases h), hm, Near.refl _ _⟩
end Go.Proofs.Ytmnepolfiipfcaa
