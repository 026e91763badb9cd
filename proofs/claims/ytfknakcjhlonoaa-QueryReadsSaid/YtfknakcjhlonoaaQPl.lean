/-
  What replies say, in plain words; lists of slices of bytes. No condition.
-/
import Derived.Test.YtfknakcjhlonoaaRng
import Derived.Test.YtfknakcjhlonoaaLSame
namespace Go.Proofs.Ytfknakcjhlonoaa
open Go.RowKit
set_option linter.unusedVariables false
set_option linter.unusedSimpArgs false

def badR (y : Int × List Int) : Bool := y.1 != 129 || y.2.length == 0
def repsR (L : List (Int × List Int)) (e : Int) : List (List Int) × Int := if L.any badR then ([], 4) else if e ≠ 0 then ([], e) else (L.map (·.2), 0)
/-- the data of all replies; or the error -/
def repsOf (l : List Int) : List (List Int) × Int :=
  if l.length = 0 then ([], 2) else if l.getD 0 0 ≠ 136 then ([], 4) else repsR (fldsOf (l.drop 1)).1 (fldsOf (l.drop 1)).2
def okR (xs : List EF) : Prop := ∀ x ∈ xs, badR x.bare = false
theorem any_ok {xs : List EF} (h : okR xs) : (xs.map EF.bare).any badR = false := by
  rw [List.any_eq_false]
  intro y hy
  obtain ⟨x, hx, rfl⟩ := List.mem_map.1 hy
  rw [h x hx]; simp
theorem reps_all {m : List Int} {xs : List EF} (h : xs.map EF.pl = items m) (hc : clean xs) (hg : okR xs) : repsR (fldsOf m).1 (fldsOf m).2 = (xs.map (·.l), 0) := by
  rw [flds_all h hc]
  unfold repsR
  rw [if_neg (by rw [any_ok hg]; simp), if_neg (by simp)]
  simp [EF.bare, Function.comp_def]
theorem reps_stop {m : List Int} {pre : List EF} {x : EF} (h : (pre ++ [x]).map EF.pl <+: items m) (hc : clean pre) (hg : okR pre) (hx : x.e ≠ 0) : repsR (fldsOf m).1 (fldsOf m).2 = ([], x.e) := by
  rw [flds_stop h hc hx]
  unfold repsR
  rw [if_neg (by rw [any_ok hg]; simp), if_pos hx]
theorem reps_bad {m : List Int} {pre : List EF} {x : EF} (h : (pre ++ [x]).map EF.pl <+: items m) (hc : clean pre) (hx : x.e = 0) (hb : badR x.bare = true) : repsR (fldsOf m).1 (fldsOf m).2 = ([], 4) := by
  have hcl : ∀ y ∈ (pre ++ [x]).map EF.pl, y.2.2 = 0 := by
    intro y hy
    obtain ⟨z, hz, rfl⟩ := List.mem_map.1 hy
    rcases List.mem_append.1 hz with hz | hz
    · exact hc z hz
    · rw [List.mem_singleton.1 hz]; exact hx
  have hp : ((pre ++ [x]).map EF.pl).map bare <+: (fldsOf m).1 := upTo_pre hcl h
  have hm : x.bare ∈ (fldsOf m).1 := hp.subset (by
    rw [pl_bare]
    simp)
  have : (fldsOf m).1.any badR = true := List.any_eq_true.2 ⟨_, hm, hb⟩
  unfold repsR
  rw [if_pos this]
theorem repsR_pos {L : List (Int × List Int)} {e : Int} : ∀ d ∈ (repsR L e).1, d.length ≠ 0 := by
  unfold repsR
  intro d hd
  by_cases h : L.any badR = true
  · rw [if_pos h] at hd; simp at hd
  · rw [if_neg h] at hd
    by_cases he : e ≠ 0
    · rw [if_pos he] at hd; simp at hd
    · rw [if_neg he] at hd
      obtain ⟨y, hy, rfl⟩ := List.mem_map.1 hd
      simp only [Bool.not_eq_true, List.any_eq_false] at h
      have := h y hy
      unfold badR at this
      simp at this
      intro h0
      exact this.2 (List.eq_nil_of_length_eq_zero h0)
theorem reps_pos {l : List Int} : ∀ d ∈ (repsOf l).1, d.length ≠ 0 := by
  unfold repsOf
  intro d hd
  by_cases h : l.length = 0
  · rw [if_pos h] at hd; simp at hd
  · rw [if_neg h] at hd
    by_cases h2 : l.getD 0 0 ≠ 136
    · rw [if_pos h2] at hd; simp at hd
    · rw [if_neg h2] at hd; exact repsR_pos d hd
theorem repsR_err {L : List (Int × List Int)} {e : Int} (h : (repsR L e).2 ≠ 0) : (repsR L e).1 = [] := by
  unfold repsR at h ⊢
  by_cases h1 : L.any badR = true
  · rw [if_pos h1]
  · rw [if_neg h1] at h ⊢
    by_cases h2 : e ≠ 0
    · rw [if_pos h2]
    · rw [if_neg h2] at h; simp at h
theorem reps_err {l : List Int} (h : (repsOf l).2 ≠ 0) : (repsOf l).1 = [] := by
  unfold repsOf at h ⊢
  by_cases h1 : l.length = 0
  · rw [if_pos h1]
  · rw [if_neg h1] at h ⊢
    by_cases h2 : l.getD 0 0 ≠ 136
    · rw [if_pos h2]
    · rw [if_neg h2] at h ⊢; exact repsR_err h
theorem items_len : ∀ (f : Nat) (l : List Int), l.length ≤ f → (items l).length ≤ l.length := by
  intro f
  induction f with
  | zero => intro l h; rw [items_nil (by omega)]; simp
  | succ f ih =>
    intro l h
    by_cases h0 : l.length = 0
    · rw [items_nil h0]; simp
    · by_cases hb : fldN l < 3 ∨ l.length < fldN l
      · rw [items_bad h0 hb]; simp; omega
      · rw [items_cons h0 (by omega) (by omega), List.length_cons]
        have := ih (l.drop (fldN l)) (by rw [List.length_drop]; omega)
        rw [List.length_drop] at this
        omega
theorem upTo_len : ∀ L : List (Int × List Int × Int), (upTo L).1.length ≤ L.length
  | [] => by simp [upTo]
  | (i, d, e) :: r => by
    have := upTo_len r
    unfold upTo
    split <;> simp <;> omega
theorem repsR_len {L : List (Int × List Int)} {e : Int} : (repsR L e).1.length ≤ L.length := by
  unfold repsR
  repeat' split
  all_goals simp
theorem reps_len {l : List Int} : (repsOf l).1.length ≤ l.length := by
  unfold repsOf
  by_cases h1 : l.length = 0
  · rw [if_pos h1]; simp
  · rw [if_neg h1]
    by_cases h2 : l.getD 0 0 ≠ 136
    · rw [if_pos h2]; simp
    · rw [if_neg h2]
      refine Nat.le_trans repsR_len (Nat.le_trans (upTo_len _) ?_)
      have h3 := items_len (l.drop 1).length (l.drop 1) (Nat.le_refl _)
      rw [List.length_drop] at h3
      omega
/-- slices of bytes in a row -/
def BS.cells (s : Inn) : List Value := [.slice s.1 s.2.2.length s.2.1]
def BS.inn (s : Inn) : List Inn := [s]
def EF.cel (x : EF) : List Value := [.slice x.A x.l.length x.c]
def EF.in1 (x : EF) : Inn := (x.A, x.c, x.l)
def EF.lst (x : EF) : List Int := x.l
theorem FL.in1 {e : TypeId} {B : Nat} {w : World} {A : Option Addr} {c : Nat} {xs : List EF} (h : FL e 1 EF.cel EF.inn B w A c xs) : FL e 1 BS.cells BS.inn B w A c (xs.map EF.in1) := by
  refine ⟨?_, by simpa using h.le, h.mx, fun x hx s hs => ?_⟩
  · have := h.own
    rw [List.length_map, List.flatMap_map]
    exact this
  · obtain ⟨y, hy, rfl⟩ := List.mem_map.1 hx
    exact h.good y hy s hs
theorem info_bb : (Try.prog.info? 22).map (fun i => (i.zero, i.size, i.bytes)) = some (some (.slice none 0 0), 1, 24) := by kernel_rfl
theorem ne_bb : 22 ≠ 5 := by decide
theorem bs_at {e : TypeId} {B : Nat} {w : World} {A : Option Addr} {c : Nat} {xs : List Inn} (h : FL e 1 BS.cells BS.inn B w A c xs) {j : Nat} {x : Inn} (hj : xs[j]? = some x) :
    ∃ b, A = some ⟨b, 0, none⟩ ∧ b < w.heap.size ∧ w.cell? ⟨b, j, none⟩ = some (.slice x.1 x.2.2.length x.2.1) ∧ Sl B w x.1 x.2.2.length x.2.1 x.2.2 := by
  have hlt := (List.getElem?_eq_some_iff.1 hj).1
  have hr := Reads.of_own h.own
  rcases h.own.2 with ⟨e1, e2⟩ | ⟨g, cap, cur, e1, _, _⟩
  · omega
  · injection e1 with e1 _ _
    subst e1
    obtain ⟨b', off', e3, hb, _⟩ := hr.2 (by omega)
    injection e3 with e3
    injection e3 with e3 _ _
    subst e3
    have := row_at (enc := BS.cells) (k := 1) (fun _ => rfl) hr hj (by decide)
    have a0 := this 0 _ rfl
    rw [Nat.zero_add, Nat.mul_one, Nat.add_zero] at a0
    exact ⟨g, rfl, hb, a0, h.good x (List.mem_of_getElem? hj) _ (List.mem_singleton.2 rfl)⟩
theorem take_snoc {α : Type} {xs : List α} {j : Nat} {x : α} (h : xs[j]? = some x) : xs.take (j + 1) = xs.take j ++ [x] := by
  have hlt := (List.getElem?_eq_some_iff.1 h).1
  have e := (List.getElem?_eq_some_iff.1 h).2
  rw [List.take_add_one, h]
  rfl
def RepPost (w : World) (r : List (List Int) × Int) (e : Ending) (w' : World) : Prop :=
  ∃ A' c' xs, e = .returned (.tuple #[.slice A' xs.length c', .int .i64 r.2]) ∧ FL 22 1 BS.cells BS.inn w.heap.size w' A' c' xs ∧ xs.map (·.2.2) = r.1 ∧ Up w w'
theorem RepPost.none_ {w w' : World} {x : Int} {e : Ending} (he : e = .returned (.tuple #[.slice none 0 0, .int .i64 x])) (h : Up w w') : RepPost w ([], x) e w' :=
  ⟨none, 0, [], he, FL.nil, rfl, h⟩
end Go.Proofs.Ytfknakcjhlonoaa
