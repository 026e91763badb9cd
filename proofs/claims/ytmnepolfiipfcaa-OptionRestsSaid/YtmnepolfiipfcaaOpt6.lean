/-
  option's New, Hear, Ask, State, On in the form in which the laws meet them; the laws' awake. No condition.
-/
import Derived.Test.YtmnepolfiipfcaaOpt5
namespace Go.Proofs.Ytmnepolfiipfcaa
open Go.RowKit
set_option linter.unusedVariables false
set_option linter.unusedSimpArgs false

def agr (l1 l2 : List Int) (i o : Nat) : Bool := if i = 0 then decide ((o : Int) ∈ l1) else decide ((o : Int) ∈ l2)
theorem new_at {A1 A2 : Option Addr} {n1 n2 c1 c2 : Nat} {l1 l2 : List Int} {w : World} (hr1 : Reads w w.heap.size 1 A1 n1 (bs l1)) (hr2 : Reads w w.heap.size 1 A2 n2 (bs l2)) (hn1 : n1 ≤ 65536) (hn2 : n2 ≤ 65536) (hw1 : ∀ x ∈ l1, 0 ≤ x ∧ x ≤ 255) (hw2 : ∀ x ∈ l2, 0 ≤ x ∧ x ≤ 255) :
    Calls Try.prog 10 #[.slice A1 n1 c1, .slice A2 n2 c2] w fun e w' => ∃ b, e = .returned (.pointer (some ⟨b, 0, none⟩)) ∧ w.heap.size ≤ b ∧ b < w'.heap.size ∧ MAt w' b (fun _ _ => 0) (agr l1 l2) ∧ Up w w' := by
  refine (new_any A1 A2 n1 n2 c1 c2 l1 l2 w hr1 hr2 hn1 hn2 hw1 hw2).mono ?_
  rintro e w' ⟨rfl, hm, hu⟩
  exact ⟨_, rfl, Nat.le_refl _, cell_lt (hm 0 0 (by omega) (by omega)).1.1, hm, hu⟩
theorem hear_at {b : Nat} {v o : Int} {S : Nat → Nat → Int} {G : Nat → Nat → Bool} {w : World} (k : Nat) (hm : MAt w b S G) (hb : b < w.heap.size) (hk : k < 256) (ho : o = (k : Int)) :
    Calls Try.prog 11 #[.pointer (some ⟨b, 0, none⟩), .int .u8 v, .int .u8 o] w (AnsPost b (hearS v k S G) G (hearL v k S G) (hearE v) w) := by
  subst ho; exact hear_any b k v S G w hm hb hk
theorem ask_at {b : Nat} {i o : Int} {t : Bool} {S : Nat → Nat → Int} {G : Nat → Nat → Bool} {w : World} (k : Nat) (hm : MAt w b S G) (hb : b < w.heap.size) (hk : k < 256) (ho : o = (k : Int)) :
    Calls Try.prog 14 #[.pointer (some ⟨b, 0, none⟩), .int .i64 i, .int .u8 o, .bool t] w (AnsPost b (askS i k t S) G (askL i k t S) (askE i k t S) w) := by
  subst ho; exact ask_any b k i t S G w hm hb hk
theorem state_at {b : Nat} {i' o s : Int} {S : Nat → Nat → Int} {G : Nat → Nat → Bool} {w : World} (i k : Nat) (hm : MAt w b S G) (hS : okS S) (hi : i < 2) (hk : k < 256) (hi' : i' = (i : Int)) (ho : o = (k : Int)) (hs : S i k = s) :
    Calls Try.prog 19 #[.pointer (some ⟨b, 0, none⟩), .int .i64 i', .int .u8 o] w fun e w' => e = .returned (.int .i64 s) ∧ w = w' := by
  subst ho hi' hs; exact state_is b k i S G w hm hk hi (by have := hS i k; omega)
theorem on_at {b : Nat} {i' o : Int} {t : Bool} {S : Nat → Nat → Int} {G : Nat → Nat → Bool} {w : World} (i k : Nat) (hm : MAt w b S G) (hS : okS S) (hi : i < 2) (hk : k < 256) (hi' : i' = (i : Int)) (ho : o = (k : Int)) (ht : (S i k == 1) = t) :
    Calls Try.prog 13 #[.pointer (some ⟨b, 0, none⟩), .int .i64 i', .int .u8 o] w fun e w' => e = .returned (.bool t) ∧ w = w' :=
  on_of (state_at i k hm hS hi hk hi' ho rfl) ht
theorem MAt.drew {w : World} {b : Nat} {S : Nat → Nat → Int} {G : Nat → Nat → Bool} (h : MAt w b S G) : MAt w.drew b S G := h
theorem okS_zero : okS (fun _ _ => 0) := fun _ _ => by simp
/-- one word, as it lies -/
theorem word_one {w : World} {B : Nat} {A : Option Addr} {v o : Int} (h : Reads w B 2 A 1 (ms [(v, o)])) : ∃ b off, A = some ⟨b, off, none⟩ ∧ b < B ∧ w.cell? ⟨b, off, none⟩ = some (.int .u8 v) ∧ w.cell? ⟨b, off + 1, none⟩ = some (.int .u8 o) := by
  obtain ⟨b, off, e, hb, hc⟩ := h.2 (by omega)
  exact ⟨b, off, e, hb, hc 0 _ rfl, hc 1 _ rfl⟩
theorem word_one' {w : World} {B n : Nat} {A : Option Addr} {L : List (Int × Int)} {v o : Int} (h : Reads w B 2 A n (ms L)) (hL : L = [(v, o)]) (hn : n = L.length) : n = 1 ∧ ∃ b off, A = some ⟨b, off, none⟩ ∧ b < B ∧ w.cell? ⟨b, off, none⟩ = some (.int .u8 v) ∧ w.cell? ⟨b, off + 1, none⟩ = some (.int .u8 o) := by
  subst hL; subst hn; exact ⟨rfl, word_one h⟩
theorem hs_next {v : Int} {k i o : Nat} {S : Nat → Nat → Int} {G : Nat → Nat → Bool} : hearS v k S G i o = if isVerb v ∧ i = sideOf v ∧ o = k then nextOf v (S i o) (G i o) else S i o := by
  unfold hearS
  by_cases hv : isVerb v
  · simp only [if_pos hv, true_and, hv]
    by_cases h : i = sideOf v ∧ o = k
    · obtain ⟨rfl, rfl⟩ := h; simp
    · simp only [if_neg h, if_true]
  · simp only [if_neg hv, hv, false_and, if_false]
theorem reads_lit1 (W : World) (cs : Array Value) (t : TypeId) (l : List Int) (n : Nat) (h : cs.toList = bs l) (hn : cs.size = n) (g : Nat) (hg : g = W.heap.size) :
    Reads (W.alloc (.cells cs t)) (W.alloc (.cells cs t)).heap.size 1 (some ⟨g, 0, none⟩) n (bs l) := by
  have := (reads_at W g 1 n cs t (by omega) hg).more (show W.heap.size + 1 ≤ (W.alloc (.cells cs t)).heap.size by simp)
  rw [h] at this
  exact this
set_option maxHeartbeats 1600000 in
theorem awake08 (w : World) : Calls Try.prog 8 #[] w fun e w' => e = .returned (.bool true) ∧ Up w w' := by
  go_enter Try.func8, Try.ntmps8
  go_wp2_with fail
  refine (new_at (l1 := [25]) (l2 := []) (reads_lit1 _ _ _ [25] 1 rfl rfl _ rfl) Reads.none_ (by omega) (by omega) (by simp) (by simp)).mono ?_
  rintro e w1 ⟨b, rfl, hb0, hb1, hm1, hu1⟩
  have hU1 : Up w w1 := ((Up.refl w).alloc _).trans hu1
  simp at hb0
  go_wp2_with fail
  refine (hear_at 25 hm1 hb1 (by omega) rfl).mono ?_
  rintro e w2 ⟨A2, n2, c2, rfl, hn2, hr2, hf2, hm2, hk2⟩
  have hU2 : Up w w2 := hU1.keep hk2 (by intro i hi; omega)
  obtain ⟨rfl, g2, o2, rfl, hg2, x2, y2⟩ := word_one' (v := 251) (o := 25) hr2 (by decide) hn2
  have z2 := hk2.size
  have z2b : w1.heap.size ≤ g2 := hf2 _ rfl
  clear hn2 hr2 hf2
  go_wp2_with fail
  refine (hear_at 25 hm2 (by omega) (by omega) rfl).mono ?_
  rintro e w3 ⟨A3, n3, c3, rfl, hn3, hr3, hf3, hm3, hk3⟩
  have hU3 : Up w w3 := hU2.keep hk3 (by intro i hi; omega)
  have z3 := hk3.size
  obtain rfl : n3 = 0 := hn3.trans (by decide)
  clear hn3 hr3 hf3
  rw [← (hk3.at_ g2 hg2 (by omega)).1] at x2 y2
  go_wp2_with fail
  refine (hear_at 1 hm3 (by omega) (by omega) rfl).mono ?_
  rintro e w4 ⟨A4, n4, c4, rfl, hn4, hr4, hf4, hm4, hk4⟩
  have hU4 : Up w w4 := hU3.keep hk4 (by intro i hi; omega)
  have z4 := hk4.size
  obtain ⟨rfl, g4, o4, rfl, hg4, x4, y4⟩ := word_one' (v := 252) (o := 1) hr4 (by decide) hn4
  clear hn4 hr4 hf4
  rw [← (hk4.at_ g2 (by omega) (by omega)).1] at x2 y2
  go_wp2_with fail
  refine (on_at 0 25 hm4 (hearS_ok (hearS_ok (hearS_ok okS_zero))) (by omega) (by omega) rfl rfl (t := true) (by decide)).mono ?_
  rintro e w5 ⟨rfl, rfl⟩
  go_wp2_with fail
  go_ret
  exact ⟨rfl, hU4⟩
end Go.Proofs.Ytmnepolfiipfcaa
