/-
Two ends that ask and answer come to rest: plain law, no program in sight. No condition.
Whole answers at a time: a line of option words as its reader, its link and its host take it; the plain law of TopAgrees. No condition.
-/
import Derived.Test.YtamfjgioajmnpaaGreatDoorJa31
import Derived.Test.YtamfjgioajmnpaaGreatDoorJa41
import Derived.Test.YtamfjgioajmnpaaGreatDoorJa43
namespace Go.Proofs.YtamfjgioajmnpaaGreatDoor
open Go.RowKit
set_option linter.unusedVariables false
set_option linter.unusedSimpArgs false

/-- a link: both ends' states, the words under way to each, and how many words may still be said of it -/
abbrev Lnk := Int × Int × List Bool × List Bool × Nat
def rl00 : List Lnk := [(0, 0, [], [], 0), (0, 2, [], [false], 0), (0, 3, [], [false], 2), (0, 4, [], [false], 0), (0, 4, [true], [], 1), (0, 5, [], [false], 0), (0, 5, [true], [], 1), (1, 1, [], [], 0), (1, 2, [false], [], 1), (1, 3, [false], [], 3), (1, 4, [], [true], 0), (1, 5, [], [true], 2), (2, 0, [false], [], 0), (2, 1, [], [false], 1), (2, 2, [false], [false], 0), (2, 3, [false], [false], 2), (2, 4, [], [true, false], 1), (2, 4, [false, true], [], 1), (2, 5, [], [true, false], 1), (2, 5, [false, true], [], 1), (3, 0, [false], [], 2), (3, 1, [], [false], 3), (3, 2, [false], [false], 2), (3, 3, [false], [false], 2), (3, 4, [], [true, false], 3), (3, 4, [false, true], [], 1), (3, 5, [], [true, false], 3), (3, 5, [false, true], [], 3), (4, 0, [], [true], 1), (4, 0, [false], [], 0), (4, 1, [true], [], 0), (4, 2, [], [false, true], 1), (4, 2, [true, false], [], 1), (4, 3, [], [false, true], 1), (4, 3, [true, false], [], 3), (4, 4, [], [false, true], 1), (4, 4, [false, true], [], 1), (4, 4, [true], [true], 0), (4, 5, [], [false, true], 1), (4, 5, [false, true], [], 1), (4, 5, [true], [true], 2), (5, 0, [], [true], 1), (5, 0, [false], [], 0), (5, 1, [true], [], 2), (5, 2, [], [false, true], 1), (5, 2, [true, false], [], 1), (5, 3, [], [false, true], 3), (5, 3, [true, false], [], 3), (5, 4, [], [false, true], 1), (5, 4, [false, true], [], 1), (5, 4, [true], [true], 2), (5, 5, [], [false, true], 1), (5, 5, [false, true], [], 1), (5, 5, [true], [true], 2)]
def rl01 : List Lnk := [(0, 0, [], [], 0), (0, 2, [], [false], 0), (0, 3, [], [false], 2), (0, 4, [], [false], 0), (0, 4, [true], [], 1), (0, 5, [], [false], 0), (0, 5, [true], [], 1), (1, 1, [], [], 0), (1, 2, [false], [], 1), (1, 3, [false], [], 3), (1, 4, [], [true], 0), (1, 5, [], [true], 2), (2, 0, [false], [], 0), (2, 1, [], [false], 1), (2, 2, [false], [false], 0), (2, 3, [false], [false], 2), (2, 4, [], [true, false], 1), (2, 4, [false, true], [], 1), (2, 5, [], [true, false], 1), (2, 5, [false, true], [], 1), (3, 0, [false], [], 2), (3, 1, [], [false], 3), (3, 2, [false], [false], 2), (3, 3, [false], [false], 2), (3, 4, [], [true, false], 3), (3, 4, [false, true], [], 1), (3, 5, [], [true, false], 3), (3, 5, [false, true], [], 3), (4, 0, [], [true], 1), (4, 1, [true], [], 0), (4, 2, [], [false, true], 1), (4, 2, [true, false], [], 1), (4, 3, [], [false, true], 1), (4, 3, [true, false], [], 3), (4, 4, [], [false, true], 1), (4, 4, [true], [true], 0), (4, 5, [], [false, true], 1), (4, 5, [true], [true], 2), (5, 0, [], [true], 3), (5, 1, [true], [], 2), (5, 2, [], [false, true], 3), (5, 2, [true, false], [], 1), (5, 3, [], [false, true], 3), (5, 3, [true, false], [], 3), (5, 4, [], [false, true], 3), (5, 4, [true], [true], 2), (5, 5, [], [false, true], 3), (5, 5, [true], [true], 2)]
def rl10 : List Lnk := [(0, 0, [], [], 0), (0, 2, [], [false], 0), (0, 3, [], [false], 2), (0, 4, [true], [], 1), (0, 5, [true], [], 3), (1, 1, [], [], 0), (1, 2, [false], [], 1), (1, 3, [false], [], 3), (1, 4, [], [true], 0), (1, 5, [], [true], 2), (2, 0, [false], [], 0), (2, 1, [], [false], 1), (2, 2, [false], [false], 0), (2, 3, [false], [false], 2), (2, 4, [], [true, false], 1), (2, 4, [false, true], [], 1), (2, 5, [], [true, false], 1), (2, 5, [false, true], [], 3), (3, 0, [false], [], 2), (3, 1, [], [false], 3), (3, 2, [false], [false], 2), (3, 3, [false], [false], 2), (3, 4, [], [true, false], 3), (3, 4, [false, true], [], 1), (3, 5, [], [true, false], 3), (3, 5, [false, true], [], 3), (4, 0, [], [true], 1), (4, 0, [false], [], 0), (4, 1, [true], [], 0), (4, 2, [], [false, true], 1), (4, 2, [true, false], [], 1), (4, 3, [], [false, true], 1), (4, 3, [true, false], [], 3), (4, 4, [false, true], [], 1), (4, 4, [true], [true], 0), (4, 5, [false, true], [], 3), (4, 5, [true], [true], 2), (5, 0, [], [true], 1), (5, 0, [false], [], 0), (5, 1, [true], [], 2), (5, 2, [], [false, true], 1), (5, 2, [true, false], [], 1), (5, 3, [], [false, true], 3), (5, 3, [true, false], [], 3), (5, 4, [false, true], [], 1), (5, 4, [true], [true], 2), (5, 5, [false, true], [], 3), (5, 5, [true], [true], 2)]
def rl11 : List Lnk := [(0, 0, [], [], 0), (0, 2, [], [false], 0), (0, 3, [], [false], 2), (0, 4, [true], [], 1), (0, 5, [true], [], 3), (1, 1, [], [], 0), (1, 2, [false], [], 1), (1, 3, [false], [], 3), (1, 4, [], [true], 0), (1, 5, [], [true], 2), (2, 0, [false], [], 0), (2, 1, [], [false], 1), (2, 2, [false], [false], 0), (2, 3, [false], [false], 2), (2, 4, [], [true, false], 1), (2, 4, [false, true], [], 1), (2, 5, [], [true, false], 1), (2, 5, [false, true], [], 3), (3, 0, [false], [], 2), (3, 1, [], [false], 3), (3, 2, [false], [false], 2), (3, 3, [false], [false], 2), (3, 4, [], [true, false], 3), (3, 4, [false, true], [], 1), (3, 5, [], [true, false], 3), (3, 5, [false, true], [], 3), (4, 0, [], [true], 1), (4, 1, [true], [], 0), (4, 2, [], [false, true], 1), (4, 2, [true, false], [], 1), (4, 3, [], [false, true], 1), (4, 3, [true, false], [], 3), (4, 4, [true], [true], 0), (4, 5, [true], [true], 2), (5, 0, [], [true], 3), (5, 1, [true], [], 2), (5, 2, [], [false, true], 3), (5, 2, [true, false], [], 1), (5, 3, [], [false, true], 3), (5, 3, [true, false], [], 3), (5, 4, [true], [true], 2), (5, 5, [true], [true], 2)]

def rl (gx gy : Bool) : List Lnk := match gx, gy with | false, false => rl00 | false, true => rl01 | true, false => rl10 | true, true => rl11
def nxA (g : Bool) (p : Int) (h : Bool) : Int := if h then onNext p g else offNext p
def wdA (g : Bool) (p : Int) (h : Bool) : Int := if h then onWord p g else offWord p
def wl (w : Int) : List Bool := if w = 0 then [] else [decide (w = 2)]
def hasB (L : List Lnk) (p q : Int) (wx wy : List Bool) (m : Nat) : Bool := L.any fun t => t.1 == p && t.2.1 == q && t.2.2.1 == wx && t.2.2.2.1 == wy && decide (t.2.2.2.2 ≤ m)
def hearX (g : Bool) (L : List Lnk) (s : Lnk) : Bool := match s.2.2.1 with
  | [] => true
  | h :: r => decide ((wl (wdA g s.1 h)).length ≤ s.2.2.2.2) && hasB L (nxA g s.1 h) s.2.1 r (s.2.2.2.1 ++ wl (wdA g s.1 h)) (s.2.2.2.2 - (wl (wdA g s.1 h)).length)
def hearY (g : Bool) (L : List Lnk) (s : Lnk) : Bool := match s.2.2.2.1 with
  | [] => true
  | h :: r => decide ((wl (wdA g s.2.1 h)).length ≤ s.2.2.2.2) && hasB L s.1 (nxA g s.2.1 h) (s.2.2.1 ++ wl (wdA g s.2.1 h)) r (s.2.2.2.2 - (wl (wdA g s.2.1 h)).length)
def askX (t : Bool) (L : List Lnk) (s : Lnk) : Bool := !askK t s.1 || (decide ((wl (askW t s.1)).length ≤ s.2.2.2.2 + 2) && hasB L (askN t s.1) s.2.1 s.2.2.1 (s.2.2.2.1 ++ wl (askW t s.1)) (s.2.2.2.2 + 2 - (wl (askW t s.1)).length))
def askY (t : Bool) (L : List Lnk) (s : Lnk) : Bool := !askK t s.2.1 || (decide ((wl (askW t s.2.1)).length ≤ s.2.2.2.2 + 2) && hasB L s.1 (askN t s.2.1) (s.2.2.1 ++ wl (askW t s.2.1)) s.2.2.2.1 (s.2.2.2.2 + 2 - (wl (askW t s.2.1)).length))
def restB (s : Lnk) : Bool := !(s.2.2.1.isEmpty && s.2.2.2.1.isEmpty) || (s.1 == s.2.1 && (s.1 == 0 || s.1 == 1))
def goodBN (gx gy : Bool) : Bool := (rl gx gy).all fun s => hearX gx (rl gx gy) s && hearY gy (rl gx gy) s && askX true (rl gx gy) s && askX false (rl gx gy) s && askY true (rl gx gy) s && askY false (rl gx gy) s && restB s
theorem good_all : ∀ gx gy : Bool, goodBN gx gy = true := by decide +kernel
theorem good_at {gx gy : Bool} {s : Lnk} (h : s ∈ rl gx gy) : hearX gx (rl gx gy) s = true ∧ hearY gy (rl gx gy) s = true ∧ (∀ t, askX t (rl gx gy) s = true) ∧ (∀ t, askY t (rl gx gy) s = true) ∧ restB s = true := by
  have := List.all_eq_true.1 (good_all gx gy) s h
  simp only [Bool.and_eq_true] at this
  obtain ⟨⟨⟨⟨⟨⟨h1, h2⟩, h3⟩, h4⟩, h5⟩, h6⟩, h7⟩ := this
  exact ⟨h1, h2, fun t => by cases t <;> assumption, fun t => by cases t <;> assumption, h7⟩
theorem has_at {L : List Lnk} {p q : Int} {wx wy : List Bool} {m : Nat} (h : hasB L p q wx wy m = true) : ∃ V, (p, q, wx, wy, V) ∈ L ∧ V ≤ m := by
  obtain ⟨t, ht, h⟩ := List.any_eq_true.1 h
  obtain ⟨a, b, c, d, e⟩ := t
  simp only [Bool.and_eq_true, beq_iff_eq, decide_eq_true_eq] at h
  obtain ⟨⟨⟨⟨rfl, rfl⟩, rfl⟩, rfl⟩, h5⟩ := h
  exact ⟨e, ht, h5⟩
section
variable {gx gy h t : Bool} {p q : Int} {wx wy r : List Bool} {V : Nat}
theorem link_hearX (hm : (p, q, h :: r, wy, V) ∈ rl gx gy) : ∃ V', (nxA gx p h, q, r, wy ++ wl (wdA gx p h), V') ∈ rl gx gy ∧ (wl (wdA gx p h)).length + V' ≤ V := by
  have h1 := (good_at hm).1
  simp only [hearX, Bool.and_eq_true, decide_eq_true_eq] at h1
  obtain ⟨V', h2, h3⟩ := has_at h1.2
  exact ⟨V', h2, by omega⟩
theorem link_hearY (hm : (p, q, wx, h :: r, V) ∈ rl gx gy) : ∃ V', (p, nxA gy q h, wx ++ wl (wdA gy q h), r, V') ∈ rl gx gy ∧ (wl (wdA gy q h)).length + V' ≤ V := by
  have h1 := (good_at hm).2.1
  simp only [hearY, Bool.and_eq_true, decide_eq_true_eq] at h1
  obtain ⟨V', h2, h3⟩ := has_at h1.2
  exact ⟨V', h2, by omega⟩
theorem link_askX (hm : (p, q, wx, wy, V) ∈ rl gx gy) (hk : askK t p = true) : ∃ V', (askN t p, q, wx, wy ++ wl (askW t p), V') ∈ rl gx gy ∧ (wl (askW t p)).length + V' ≤ V + 2 := by
  have h1 := (good_at hm).2.2.1 t
  simp only [askX, hk, Bool.not_true, Bool.false_or, Bool.and_eq_true, decide_eq_true_eq] at h1
  obtain ⟨V', h2, h3⟩ := has_at h1.2
  exact ⟨V', h2, by omega⟩
theorem link_askY (hm : (p, q, wx, wy, V) ∈ rl gx gy) (hk : askK t q = true) : ∃ V', (p, askN t q, wx ++ wl (askW t q), wy, V') ∈ rl gx gy ∧ (wl (askW t q)).length + V' ≤ V + 2 := by
  have h1 := (good_at hm).2.2.2.1 t
  simp only [askY, hk, Bool.not_true, Bool.false_or, Bool.and_eq_true, decide_eq_true_eq] at h1
  obtain ⟨V', h2, h3⟩ := has_at h1.2
  exact ⟨V', h2, by omega⟩
theorem link_rest (hm : (p, q, [], [], V) ∈ rl gx gy) : p = q ∧ (p = 0 ∨ p = 1) := by
  have h1 := (good_at hm).2.2.2.2
  simpa [restB] using h1
end
/-- the words to an end's side about an option -/
def tellB (v : Int) : Bool := decide (v = 251 ∨ v = 253)
def W (Y : List (Int × Int)) (i o : Nat) : List Bool := Y.filterMap fun x => if sideOf x.1 = i ∧ x.2 = (o : Int) then some (tellB x.1) else none
theorem W_append (Y Z : List (Int × Int)) (i o : Nat) : W (Y ++ Z) i o = W Y i o ++ W Z i o := by simp [W, List.filterMap_append]
theorem W_cons (x : Int × Int) (Y : List (Int × Int)) (i o : Nat) : W (x :: Y) i o = if sideOf x.1 = i ∧ x.2 = (o : Int) then tellB x.1 :: W Y i o else W Y i o := by
  unfold W
  rw [List.filterMap_cons]
  by_cases h : sideOf x.1 = i ∧ x.2 = (o : Int)
  · rw [if_pos h, if_pos h]
  · rw [if_neg h, if_neg h]
theorem W_say {i k : Nat} {wd : Int} (hi : i < 2) (hw : wd = 0 ∨ wd = 1 ∨ wd = 2) (j o : Nat) : W (sayL (i : Int) wd (k : Int)) j o = if j = 1 - i ∧ o = k then wl wd else [] := by
  have hi' : i = 0 ∨ i = 1 := by omega
  rcases hi' with rfl | rfl <;> rcases hw with rfl | rfl | rfl
  all_goals
    simp only [sayL, wl, W, verbOf]
    by_cases hj : j = 0
    · subst hj
      by_cases ho : o = k
      · subst ho; simp [sideOf, tellB]
      · have ho' : ¬ ((k : Int) = (o : Int)) := by omega
        simp [sideOf, tellB, ho, ho']
    · by_cases hj1 : j = 1
      · subst hj1
        by_cases ho : o = k
        · subst ho; simp [sideOf, tellB]
        · have ho' : ¬ ((k : Int) = (o : Int)) := by omega
          simp [sideOf, tellB, ho, ho']
      · have h0 : ¬ (0 = j) := by omega
        have h1 : ¬ (1 = j) := by omega
        simp [sideOf, hj, hj1, h0, h1]
/-- the sum over all links -/
def sum8 (f : Nat → Nat → Nat) : Nat := ((List.range 48).map (f 0)).sum + ((List.range 48).map (f 1)).sum
def put2 (f : Nat → Nat → Nat) (a o V : Nat) : Nat → Nat → Nat := fun a' o' => if a' = a ∧ o' = o then V else f a' o'
theorem sum_put (g h : Nat → Nat) (o : Nat) (he : ∀ j, j ≠ o → g j = h j) : ∀ n, o < n → ((List.range n).map g).sum + h o = ((List.range n).map h).sum + g o
  | 0, hn => absurd hn (by omega)
  | n + 1, hn => by
    rw [List.range_succ, List.map_append, List.map_append, List.sum_append, List.sum_append]
    simp only [List.map_cons, List.map_nil, List.sum_cons, List.sum_nil, Nat.add_zero]
    rcases Nat.lt_or_ge o n with h1 | h1
    · have := sum_put g h o he n h1
      have := he n (by omega)
      omega
    · obtain rfl : o = n := by omega
      have e : ∀ l : List Nat, (∀ x ∈ l, x ≠ o) → l.map g = l.map h := fun l hl => List.map_congr_left fun x hx => he x (hl x hx)
      rw [e (List.range o) (fun x hx => by have := List.mem_range.1 hx; omega)]
      omega
theorem sum8_put (f : Nat → Nat → Nat) {a o : Nat} (V : Nat) (ha : a < 2) (ho : o < 48) : sum8 (put2 f a o V) + f a o = sum8 f + V := by
  unfold sum8
  have k : ∀ i, ∀ j, j ≠ o → put2 f a o V i j = f i j := fun i j hj => if_neg (fun h => hj h.2)
  have z : put2 f a o V a o = V := if_pos ⟨rfl, rfl⟩
  have y : ∀ i, i ≠ a → put2 f a o V i = f i := fun i hi => funext fun j => if_neg (fun h => hi h.1)
  rcases (show a = 0 ∨ a = 1 by omega) with rfl | rfl
  · have := sum_put (put2 f 0 o V 0) (f 0) o (k 0) 48 ho
    rw [y 1 (by omega)]
    omega
  · have := sum_put (put2 f 1 o V 1) (f 1) o (k 1) 48 ho
    rw [y 0 (by omega)]
    omega
/-- how two ends stand: their states S, what they agree to, the words Y under way to each -/
structure Ends (G : Nat → Nat → Nat → Bool) (S : Nat → Nat → Nat → Int) (Y : Nat → List (Int × Int)) (f : Nat → Nat → Nat) : Prop where
  link : ∀ a o, a < 2 → o < 48 → (S a 0 o, S (1 - a) 1 o, W (Y a) 0 o, W (Y (1 - a)) 1 o, f a o) ∈ rl (G a 0 o) (G (1 - a) 1 o)
  word : ∀ e, e < 2 → ∀ x ∈ Y e, isVerb x.1 ∧ ∃ k : Nat, k < 48 ∧ x.2 = (k : Int)
  rest : ∀ e i o, e < 2 → i < 2 → 48 ≤ o → S e i o = 0
  ok : ∀ e, e < 2 → okS (S e)
theorem ends_start (G : Nat → Nat → Nat → Bool) : Ends G (fun _ _ _ => 0) (fun _ => []) (fun _ _ => 0) := by
  refine ⟨fun a o _ _ => ?_, fun e _ x hx => by simp at hx, fun _ _ _ _ _ _ => rfl, fun _ _ _ _ => by simp⟩
  have : ∀ gx gy : Bool, ((0, 0, [], [], 0) : Lnk) ∈ rl gx gy := by decide +kernel
  exact this _ _
def set1 {α : Type} (f : Nat → α) (e : Nat) (v : α) : Nat → α := fun d => if d = e then v else f d
theorem set1_same {α : Type} (f : Nat → α) (e : Nat) (v : α) : set1 f e v e = v := if_pos rfl
theorem set1_other {α : Type} (f : Nat → α) {e d : Nat} (v : α) (h : d ≠ e) : set1 f e v d = f d := if_neg h
theorem sideOf_two (v : Int) : sideOf v = 0 ∨ sideOf v = 1 := by unfold sideOf; split <;> simp
theorem nextOf_A (v s : Int) (g : Bool) : nextOf v s g = nxA g s (tellB v) := by
  unfold nextOf nxA tellB
  by_cases h : v = 251 ∨ v = 253 <;> simp [h]
theorem wordOf_A (v s : Int) (g : Bool) : wordOf v s g = wdA g s (tellB v) := by
  unfold wordOf wdA tellB
  by_cases h : v = 251 ∨ v = 253 <;> simp [h]
theorem wdA_in (g : Bool) (s : Int) (h : Bool) : wdA g s h = 0 ∨ wdA g s h = 1 ∨ wdA g s h = 2 := by
  unfold wdA; split
  · exact onWord_in _ _
  · exact offWord_in _
theorem askW_in (t : Bool) (s : Int) : askW t s = 0 ∨ askW t s = 1 ∨ askW t s = 2 := by
  unfold askW; split
  · exact askOnW_in _
  · exact askOffW_in _
theorem say_len (i wd o : Int) : (sayL i wd o).length = (wl wd).length := by
  unfold sayL wl; split <;> simp
theorem verbOf_is {i : Nat} {wd : Int} (hi : i < 2) (hw : wd = 1 ∨ wd = 2) : isVerb (verbOf (i : Int) wd) := by
  have hi' : i = 0 ∨ i = 1 := by omega
  rcases hi' with rfl | rfl <;> rcases hw with rfl | rfl <;> simp [verbOf, isVerb]
theorem say_word {i k : Nat} {wd : Int} (hi : i < 2) (hk : k < 48) (hw : wd = 0 ∨ wd = 1 ∨ wd = 2) : ∀ x ∈ sayL (i : Int) wd (k : Int), isVerb x.1 ∧ ∃ k : Nat, k < 48 ∧ x.2 = (k : Int) := by
  intro x hx
  unfold sayL at hx
  split at hx
  · simp at hx
  · rename_i h0
    simp only [List.mem_singleton] at hx
    subst hx
    exact ⟨verbOf_is hi (by omega), k, hk, rfl⟩
/-- one end's states change at one side and option, and it says a word of it -/
theorem ends_set {G : Nat → Nat → Nat → Bool} {S : Nat → Nat → Nat → Int} {Y : Nat → List (Int × Int)} {f : Nat → Nat → Nat} {e i k : Nat} {T : Nat → Nat → Int} {r : List (Int × Int)} {nx wd : Int} {V : Nat}
    (h : Ends G S Y f) (he : e < 2) (hi : i < 2) (hk : k < 48) (hT : ∀ i' o', T i' o' = if i' = i ∧ o' = k then nx else S e i' o') (hnx : 0 ≤ nx ∧ nx ≤ 5) (hw : wd = 0 ∨ wd = 1 ∨ wd = 2)
    (hr : ∀ j o, ¬ (j = i ∧ o = k) → W r j o = W (Y e) j o) (hrw : ∀ x ∈ r, x ∈ Y e)
    (hl : if i = 0 then (nx, S (1 - e) 1 k, W r 0 k, W (Y (1 - e)) 1 k ++ wl wd, V) ∈ rl (G e 0 k) (G (1 - e) 1 k) else (S (1 - e) 0 k, nx, W (Y (1 - e)) 0 k ++ wl wd, W r 1 k, V) ∈ rl (G (1 - e) 0 k) (G e 1 k)) :
    Ends G (set1 S e T) (set1 (set1 Y e r) (1 - e) (Y (1 - e) ++ sayL (i : Int) wd (k : Int))) (put2 f (if i = 0 then e else 1 - e) k V) := by
  have hne : 1 - e ≠ e := by omega
  have he2 : 1 - (1 - e) = e := by omega
  refine ⟨fun a o ha ho => ?_, fun d hd x hx => ?_, fun d j o hd hj ho => ?_, fun d hd => ?_⟩
  · rcases (show a = e ∨ a = 1 - e by omega) with rfl | rfl
    · have e1 : set1 S a T a = T := set1_same _ _ _
      have e2 : set1 S a T (1 - a) = S (1 - a) := set1_other _ _ hne
      have e3 : set1 (set1 Y a r) (1 - a) (Y (1 - a) ++ sayL (i : Int) wd (k : Int)) a = r := by rw [set1_other _ _ hne.symm, set1_same]
      have e4 : set1 (set1 Y a r) (1 - a) (Y (1 - a) ++ sayL (i : Int) wd (k : Int)) (1 - a) = Y (1 - a) ++ sayL (i : Int) wd (k : Int) := set1_same _ _ _
      rw [e1, e2, e3, e4, W_append, W_say hi hw, hT]
      by_cases hik : 0 = i ∧ o = k
      · obtain ⟨rfl, rfl⟩ := hik
        simpa [put2] using hl
      · rw [if_neg hik, hr 0 o hik, if_neg (by omega), List.append_nil]
        have : put2 f (if i = 0 then a else 1 - a) k V a o = f a o := by
          unfold put2
          rw [if_neg]
          split <;> omega
        rw [this]
        exact h.link a o ha ho
    · have e1 : set1 S e T (1 - e) = S (1 - e) := set1_other _ _ hne
      have e2 : set1 S e T e = T := set1_same _ _ _
      have e3 : set1 (set1 Y e r) (1 - e) (Y (1 - e) ++ sayL (i : Int) wd (k : Int)) (1 - e) = Y (1 - e) ++ sayL (i : Int) wd (k : Int) := set1_same _ _ _
      have e4 : set1 (set1 Y e r) (1 - e) (Y (1 - e) ++ sayL (i : Int) wd (k : Int)) e = r := by rw [set1_other _ _ hne.symm, set1_same]
      have hlk := h.link (1 - e) o ha ho
      rw [he2] at hlk
      rw [he2, e1, e2, e3, e4, W_append, W_say hi hw, hT]
      by_cases hik : 1 = i ∧ o = k
      · obtain ⟨rfl, rfl⟩ := hik
        simpa [put2] using hl
      · rw [if_neg hik, hr 1 o hik, if_neg (by omega), List.append_nil]
        have : put2 f (if i = 0 then e else 1 - e) k V (1 - e) o = f (1 - e) o := by
          unfold put2
          rw [if_neg]
          split <;> omega
        rw [this]
        exact hlk
  · rcases (show d = e ∨ d = 1 - e by omega) with rfl | rfl
    · rw [set1_other _ _ hne.symm, set1_same] at hx
      exact h.word d hd x (hrw x hx)
    · rw [set1_same] at hx
      rcases List.mem_append.1 hx with hx | hx
      · exact h.word _ hd x hx
      · exact say_word hi hk hw x hx
  · rcases (show d = e ∨ d = 1 - e by omega) with rfl | rfl
    · rw [set1_same, hT, if_neg (by omega)]
      exact h.rest d j o hd hj ho
    · rw [set1_other _ _ hne]
      exact h.rest _ j o hd hj ho
  · rcases (show d = e ∨ d = 1 - e by omega) with rfl | rfl
    · rw [set1_same]
      intro j o
      rw [hT]
      split
      · exact hnx
      · exact h.ok d hd j o
    · rw [set1_other _ _ hne]
      exact h.ok _ hd
/-- an end hears the eldest word to it -/
theorem ends_hear {G : Nat → Nat → Nat → Bool} {S : Nat → Nat → Nat → Int} {Y : Nat → List (Int × Int)} {f : Nat → Nat → Nat} {e : Nat} {v x : Int} {r : List (Int × Int)} (h : Ends G S Y f) (he : e < 2) (hY : Y e = (v, x) :: r) :
    ∃ (k : Nat) (f' : Nat → Nat → Nat), k < 48 ∧ x = (k : Int) ∧ isVerb v ∧ Ends G (set1 S e (hearS v k (S e) (G e))) (set1 (set1 Y e r) (1 - e) (Y (1 - e) ++ hearL v k (S e) (G e))) f' ∧ (hearL v k (S e) (G e)).length + sum8 f' ≤ sum8 f := by
  obtain ⟨hv, k, hk, hx⟩ := h.word e he (v, x) (by rw [hY]; simp)
  simp only at hv hx
  subst hx
  have hne : 1 - e ≠ e := by omega
  have he2 : 1 - (1 - e) = e := by omega
  obtain ⟨i, hi⟩ : ∃ i, sideOf v = i := ⟨_, rfl⟩
  have hi2 : i < 2 := by have := sideOf_two v; omega
  have hL : hearL v k (S e) (G e) = sayL (i : Int) (wdA (G e i k) (S e i k) (tellB v)) (k : Int) := by
    unfold hearL
    rw [if_pos hv, hi, wordOf_A]
  have hT : ∀ i' o', hearS v k (S e) (G e) i' o' = if i' = i ∧ o' = k then nxA (G e i k) (S e i k) (tellB v) else S e i' o' := by
    intro i' o'
    unfold hearS
    rw [if_pos hv]
    simp only [hi, nextOf_A]
  have hnx : 0 ≤ nxA (G e i k) (S e i k) (tellB v) ∧ nxA (G e i k) (S e i k) (tellB v) ≤ 5 := by rw [← nextOf_A]; exact nextOf_ok _ _ _
  have hWr : ∀ j o, ¬ (j = i ∧ o = k) → W r j o = W (Y e) j o := fun j o hjo => by
    rw [hY, W_cons, if_neg (by simp only [hi]; omega)]
  have hW : W (Y e) i k = tellB v :: W r i k := by rw [hY, W_cons, if_pos ⟨hi, rfl⟩]
  rcases (show i = 0 ∨ i = 1 by omega) with rfl | rfl
  · have hl := h.link e k he hk
    rw [hW] at hl
    obtain ⟨V, hV1, hV2⟩ := link_hearX hl
    refine ⟨k, put2 f e k V, hk, rfl, hv, ?_, ?_⟩
    · rw [hL]; exact ends_set h he hi2 hk hT hnx (wdA_in _ _ _) hWr (fun y hy => by rw [hY]; simp [hy]) (by simpa using hV1)
    · rw [hL, say_len]; have := sum8_put f V he hk
      omega
  · have hl := h.link (1 - e) k (by omega) hk
    rw [he2, hW] at hl
    obtain ⟨V, hV1, hV2⟩ := link_hearY hl
    refine ⟨k, put2 f (1 - e) k V, hk, rfl, hv, ?_, ?_⟩
    · rw [hL]; exact ends_set h he hi2 hk hT hnx (wdA_in _ _ _) hWr (fun y hy => by rw [hY]; simp [hy]) (by simpa using hV1)
    · rw [hL, say_len]; have := sum8_put f V (show 1 - e < 2 by omega) hk
      omega
/-- an end asks -/
theorem ends_ask {G : Nat → Nat → Nat → Bool} {S : Nat → Nat → Nat → Int} {Y : Nat → List (Int × Int)} {f : Nat → Nat → Nat} {e i k : Nat} {t : Bool} (h : Ends G S Y f) (he : e < 2) (hi : i < 2) (hk : k < 48) (hK : askK t (S e i k) = true) :
    ∃ f', Ends G (set1 S e (askS (i : Int) k t (S e))) (set1 Y (1 - e) (Y (1 - e) ++ askL (i : Int) k t (S e))) f' ∧ (askL (i : Int) k t (S e)).length + sum8 f' ≤ sum8 f + 2 := by
  have hne : 1 - e ≠ e := by omega
  have he2 : 1 - (1 - e) = e := by omega
  have hs : isSide (i : Int) := by unfold isSide; omega
  have hL : askL (i : Int) k t (S e) = sayL (i : Int) (askW t (S e i k)) (k : Int) := by
    unfold askL
    rw [if_pos hs, Int.toNat_natCast, if_pos hK]
  have hT : ∀ i' o', askS (i : Int) k t (S e) i' o' = if i' = i ∧ o' = k then askN t (S e i k) else S e i' o' := by
    intro i' o'
    unfold askS
    rw [if_pos hs]
    simp only [Int.toNat_natCast]
  have hnx := askN_ok t (S e i k) (h.ok e he i k)
  have hYY : set1 (set1 Y e (Y e)) (1 - e) (Y (1 - e) ++ askL (i : Int) k t (S e)) = set1 Y (1 - e) (Y (1 - e) ++ askL (i : Int) k t (S e)) := by
    congr 1
    funext d
    unfold set1
    split
    · subst_vars; rfl
    · rfl
  rw [← hYY, hL, say_len]
  rcases (show i = 0 ∨ i = 1 by omega) with rfl | rfl
  · obtain ⟨V, hV1, hV2⟩ := link_askX (h.link e k he hk) hK
    refine ⟨put2 f e k V, ?_, ?_⟩
    · exact ends_set h he hi hk hT hnx (askW_in _ _) (fun _ _ _ => rfl) (fun y hy => hy) (by simpa using hV1)
    · have := sum8_put f V he hk
      omega
  · have hl := h.link (1 - e) k (by omega) hk
    rw [he2] at hl
    obtain ⟨V, hV1, hV2⟩ := link_askY hl hK
    refine ⟨put2 f (1 - e) k V, ?_, ?_⟩
    · exact ends_set h he hi hk hT hnx (askW_in _ _) (fun _ _ _ => rfl) (fun y hy => hy) (by simpa using hV1)
    · have := sum8_put f V (show 1 - e < 2 by omega) hk
      omega
/-- what isn't asked changes nothing -/
theorem ask_none {S : Nat → Nat → Int} {i k : Nat} {t : Bool} (hi : i < 2) (hK : askK t (S i k) = false) : askL (i : Int) k t S = [] := by
  have hs : isSide (i : Int) := by unfold isSide; omega
  unfold askL
  rw [if_pos hs, Int.toNat_natCast, hK]
  rfl
/-- THE LAW: no word is under way: both have the same mind -/
theorem ends_rest {G : Nat → Nat → Nat → Bool} {S : Nat → Nat → Nat → Int} {Y : Nat → List (Int × Int)} {f : Nat → Nat → Nat} (h : Ends G S Y f) (h0 : Y 0 = []) (h1 : Y 1 = []) :
    (∀ e i o, e < 2 → i < 2 → S e i o ≤ 1) ∧ (∀ o, o < 48 → S 0 0 o = S 1 1 o ∧ S 0 1 o = S 1 0 o) := by
  have key : ∀ o, o < 48 → (S 0 0 o = S 1 1 o ∧ (S 0 0 o = 0 ∨ S 0 0 o = 1)) ∧ (S 1 0 o = S 0 1 o ∧ (S 1 0 o = 0 ∨ S 1 0 o = 1)) := fun o ho => by
    have l0 := h.link 0 o (by omega) ho
    have l1 := h.link 1 o (by omega) ho
    simp only [Nat.sub_zero, Nat.sub_self, h0, h1, W, List.filterMap_nil] at l0 l1
    exact ⟨link_rest l0, link_rest l1⟩
  refine ⟨fun e i o he hi => ?_, fun o ho => ⟨(key o ho).1.1, (key o ho).2.1.symm⟩⟩
  rcases Nat.lt_or_ge o 48 with ho | ho
  · obtain ⟨⟨a1, a2⟩, a3, a4⟩ := key o ho
    rcases (show e = 0 ∨ e = 1 by omega) with rfl | rfl <;> rcases (show i = 0 ∨ i = 1 by omega) with rfl | rfl <;> omega
  · rw [h.rest e i o he hi ho]; omega
end Go.Proofs.YtamfjgioajmnpaaGreatDoor
namespace Go.Proofs.YtamfjgioajmnpaaGreatDoor
open Go.RowKit
set_option linter.unusedVariables false
set_option linter.unusedSimpArgs false

/-- a machine that hears these words, one by one -/
def hearsS (G : Nat → Nat → Bool) : (Nat → Nat → Int) → List (Int × Int) → (Nat → Nat → Int)
  | S, [] => S
  | S, x :: r => hearsS G (hearS x.1 x.2.toNat S G) r
def hearsL (G : Nat → Nat → Bool) : (Nat → Nat → Int) → List (Int × Int) → List (Int × Int)
  | _, [] => []
  | S, x :: r => hearL x.1 x.2.toNat S G ++ hearsL G (hearS x.1 x.2.toNat S G) r
theorem set1_set1 {α : Type} (f : Nat → α) (e : Nat) (a b : α) : set1 (set1 f e a) e b = set1 f e b := by
  funext d
  by_cases h : d = e <;> simp [set1, h]
theorem set1_self {α : Type} (f : Nat → α) (e : Nat) {a : α} (h : f e = a) : set1 f e a = f := by
  funext d
  by_cases hd : d = e
  · subst hd; simp [set1, h]
  · simp [set1, hd]
theorem set1_mix {α : Type} (f : Nat → α) {e d : Nat} (h : d ≠ e) {a b c g : α} : set1 (set1 (set1 (set1 f e a) d b) e c) d g = set1 (set1 f e c) d g := by
  funext x
  by_cases h1 : x = d
  · simp [set1, h1]
  · by_cases h2 : x = e <;> simp [set1, h1, h2]
theorem ends_hears {G : Nat → Nat → Nat → Bool} {e : Nat} (he : e < 2) : ∀ (r : List (Int × Int)) {S : Nat → Nat → Nat → Int} {Y : Nat → List (Int × Int)} {f : Nat → Nat → Nat}, Ends G S Y f → Y e = r →
    ∃ f', Ends G (set1 S e (hearsS (G e) (S e) r)) (set1 (set1 Y e []) (1 - e) (Y (1 - e) ++ hearsL (G e) (S e) r)) f' ∧ (hearsL (G e) (S e) r).length + sum8 f' ≤ sum8 f
  | [], S, Y, f, h, hY => by
    refine ⟨f, ?_, by simp [hearsL]⟩
    simp only [hearsS, hearsL, List.append_nil]
    rw [set1_self S e rfl, set1_self Y e hY, set1_self Y (1 - e) rfl]
    exact h
  | x :: r, S, Y, f, h, hY => by
    obtain ⟨v, o⟩ := x
    have hne : 1 - e ≠ e := by omega
    obtain ⟨k, f1, hk, rfl, hv, h1, hb⟩ := ends_hear h he hY
    have hY1 : (set1 (set1 Y e r) (1 - e) (Y (1 - e) ++ hearL v k (S e) (G e))) e = r := by
      rw [set1_other _ _ (by omega), set1_same]
    obtain ⟨f2, h2, hb2⟩ := ends_hears he r h1 hY1
    rw [set1_same, set1_same] at h2
    rw [set1_same] at hb2
    refine ⟨f2, ?_, ?_⟩
    · simp only [hearsS, hearsL, Int.toNat_natCast]
      rw [set1_set1, set1_mix _ hne, List.append_assoc] at h2
      exact h2
    · simp only [hearsL, Int.toNat_natCast, List.length_append]
      omega
theorem hearsL_len (G : Nat → Nat → Bool) : ∀ (r : List (Int × Int)) (S : Nat → Nat → Int), (hearsL G S r).length ≤ r.length
  | [], S => by simp [hearsL]
  | x :: r, S => by
    have h1 := hearL_len x.1 x.2.toNat S G
    have h2 := hearsL_len G r (hearS x.1 x.2.toNat S G)
    simp only [hearsL, List.length_append, List.length_cons]
    omega
/-- words of the line -/
def WordsOk (Y : List (Int × Int)) : Prop := ∀ x ∈ Y, isVerb x.1 ∧ 0 ≤ x.2 ∧ x.2 ≤ 255
theorem Ends.words {G : Nat → Nat → Nat → Bool} {S : Nat → Nat → Nat → Int} {Y : Nat → List (Int × Int)} {f : Nat → Nat → Nat} (h : Ends G S Y f) {e : Nat} (he : e < 2) : WordsOk (Y e) := fun x hx => by
  obtain ⟨hv, k, hk, e1⟩ := h.word e he x hx
  exact ⟨hv, by omega, by omega⟩
theorem verb_bd {v : Int} (h : isVerb v) : 251 ≤ v ∧ v ≤ 254 := by unfold isVerb at h; omega
def evW (x : Int × Int) : EvT := ⟨2, x.1, x.2, [], false, false⟩
theorem feed_words : ∀ (Y : List (Int × Int)) (r : RdT), r.st = 0 → r.data = [] → WordsOk Y → ∃ v, (wordsB Y).foldl takeT r = { r with verb := v, out := r.out ++ Y.map evW }
  | [], r, h1, h2, hY => ⟨r.verb, by simp [wordsB]⟩
  | x :: Y, r, h1, h2, hY => by
    have hx := verb_bd (hY x (by simp)).1
    have e1 := take_word (r := r) (v := x.1) (o := x.2) h1 h2 hx
    obtain ⟨v, e2⟩ := feed_words Y { r with verb := x.1, out := r.out ++ [⟨2, x.1, x.2, [], false, false⟩] } h1 h2 (fun y hy => hY y (by simp [hy]))
    refine ⟨v, ?_⟩
    have : wordsB (x :: Y) = [255, x.1, x.2] ++ wordsB Y := by simp [wordsB]
    rw [this, List.foldl_append, e1, e2]
    simp [evW]
theorem feedW (Y : List (Int × Int)) (r : RdT) (h1 : r.st = 0) (h2 : r.data = []) (hY : WordsOk Y) : ∃ v, feedT r (wordsB Y) = { r with verb := v, out := r.out ++ Y.map evW } := by
  obtain ⟨v, h⟩ := feed_words Y r h1 h2 hY
  refine ⟨v, ?_⟩
  unfold feedT
  rw [h]
  obtain ⟨st, verb, opt, data, sub, long, out⟩ := r
  simp only at h2
  subst h2
  simp [flushT]
theorem saidW {Y : List (Int × Int)} (hY : WordsOk Y) : saidL (wordsB Y) = Y.map evW := by
  obtain ⟨v, h⟩ := feedW Y RdT.zero rfl rfl hY
  unfold saidL
  rw [h]
  simp only [RdT.zero, List.nil_append]
  rw [List.filter_eq_self]
  intro e he
  obtain ⟨x, -, rfl⟩ := List.mem_map.1 he
  rfl
/-- what a link has come to behind words -/
structure LkW (L L' : LkT) (Y : List (Int × Int)) : Prop where
  rd : L'.rd = L.rd
  S : L'.S = hearsS L.G L.S Y
  G : L'.G = L.G
  out : L'.out = L.out ++ wordsB (hearsL L.G L.S Y)
theorem settle_rd (L : LkT) : (settleT L).rd = L.rd ∧ (settleT L).S = L.S ∧ (settleT L).G = L.G ∧ (settleT L).out = L.out := by
  unfold settleT
  split <;> exact ⟨rfl, rfl, rfl, rfl⟩
theorem wordsB_app (A B : List (Int × Int)) : wordsB (A ++ B) = wordsB A ++ wordsB B := by simp [wordsB]
theorem wordsB_len (A : List (Int × Int)) : (wordsB A).length = 3 * A.length := by
  induction A with
  | nil => rfl
  | cons a A ih => simp only [wordsB, List.flatMap_cons, List.length_append, List.length_cons, List.length_nil] at ih ⊢; omega
theorem step_words {ρ : Type} (bd : LkT → ρ → LEv → LkT × ρ) (r0 : ρ) : ∀ (Y : List (Int × Int)) (L : LkT), ∃ L', (Y.map evW).foldl (stepLk bd) (L, r0) = (L', r0) ∧ LkW L L' Y
  | [], L => ⟨L, rfl, rfl, rfl, rfl, by simp [hearsL, wordsB]⟩
  | x :: Y, L => by
    obtain ⟨s1, s2, s3, s4⟩ := settle_rd (hearT L x.1 x.2.toNat)
    obtain ⟨L', h1, h2⟩ := step_words bd r0 Y (settleT (hearT L x.1 x.2.toNat))
    refine ⟨L', ?_, ⟨h2.rd.trans s1, ?_, h2.G.trans s3, ?_⟩⟩
    · rw [List.map_cons, List.foldl_cons, show stepLk bd (L, r0) (evW x) = (settleT (hearT L x.1 x.2.toNat), r0) from rfl]
      exact h1
    · rw [h2.S, s2, s3]; rfl
    · rw [h2.out, s2, s3, s4]
      show (L.out ++ wordsB (hearL x.1 x.2.toNat L.S L.G)) ++ _ = _
      simp only [hearsL]
      rw [wordsB_app, List.append_assoc]
      rfl
theorem tk_words {ρ : Type} (bd : LkT → ρ → LEv → LkT × ρ) (r0 : ρ) {Y : List (Int × Int)} (hY : WordsOk Y) {L : LkT} (ho : L.out.length + 3 * Y.length ≤ 1000000000) {j : Nat} {e : EvT} (hj : (Y.map evW)[j]? = some e) : TkOk (((Y.map evW).take j).foldl (stepLk bd) (L, r0)).1 e := by
  rw [← List.map_take]
  obtain ⟨L', h1, h2⟩ := step_words bd r0 (Y.take j) L
  rw [h1]
  rw [List.getElem?_map] at hj
  obtain ⟨x, hx, rfl⟩ := Option.map_eq_some_iff.1 hj
  obtain ⟨a1, a2, a3⟩ := hY x (List.mem_of_getElem? hx)
  have a4 := verb_bd a1
  have b1 := hearsL_len L.G (Y.take j) L.S
  have b2 := List.length_take_le j Y
  have b3 : (Y.take j).length ≤ Y.length := by rw [List.length_take]; omega
  refine ⟨by simp only [evW]; omega, by simp only [evW]; omega, .inl rfl, fun h => absurd h (by simp [evW]), fun h => absurd h (by simp [evW]), fun h => absurd h (by simp [evW]), ?_, by simp [evW]⟩
  rw [h2.out, List.length_append, wordsB_len]
  omega
end Go.Proofs.YtamfjgioajmnpaaGreatDoor
