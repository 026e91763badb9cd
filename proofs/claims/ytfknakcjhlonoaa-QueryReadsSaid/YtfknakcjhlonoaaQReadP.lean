/-
  The plain law of QueryReads: what is said is read again. No condition.
-/
import Derived.Test.YtfknakcjhlonoaaQList
import Derived.Test.YtfknakcjhlonoaaQFind
namespace Go.Proofs.Ytfknakcjhlonoaa
open Go.RowKit
set_option linter.unusedVariables false
set_option linter.unusedSimpArgs false

theorem flds_cons_bytes {id : Int} {D rest : List Int} (hD : ¬ 8192 < 3 + D.length) : fldsOf ((bytesOf id D).1 ++ rest) = ((id, D) :: (fldsOf rest).1, (fldsOf rest).2) := by
  have hb : (bytesOf id D).1 = [(3 + (D.length : Int)) / 256, (3 + (D.length : Int)) % 256, id] ++ D := by unfold bytesOf; rw [if_neg hD]
  obtain ⟨a, ha⟩ : ∃ a, (3 + (D.length : Int)) / 256 = a := ⟨_, rfl⟩
  obtain ⟨b, hb'⟩ : ∃ b, (3 + (D.length : Int)) % 256 = b := ⟨_, rfl⟩
  rw [hb, ha, hb']
  have hlen : ([a, b, id] ++ D ++ rest : List Int).length = D.length + 3 + rest.length := by simp; omega
  have hN : fldN ([a, b, id] ++ D ++ rest) = 3 + D.length := by
    unfold fldN
    rw [hlen, if_pos (by simp; omega)]
    simp
    omega
  rw [fldsOf_cons (by rw [hlen]; omega) (by rw [hN]; omega) (by rw [hN, hlen]; omega), hN]
  have e1 : ([a, b, id] ++ D ++ rest : List Int).drop (3 + D.length) = rest := by
    rw [List.drop_left' (by simp; omega)]
  have e2 : (([a, b, id] ++ D ++ rest : List Int).take (3 + D.length)).drop 3 = D := by
    rw [List.take_left' (by simp; omega)]
    rfl
  rw [e1, e2]
  rfl
def rep1 (rows cols k c : Int) : List Int := c :: saysL c rows cols k
theorem flds_body (rows cols k : Int) : ∀ cs : List Int, (∀ x ∈ cs, x ∈ codesL) → fldsOf (cs.flatMap (replyL rows cols k)) = (cs.map (fun c => (129, rep1 rows cols k c)), 0)
  | [], _ => fldsOf_nil rfl
  | c :: cs, h => by
    have h1 := says_len (rows := rows) (cols := cols) (k := k) (h c (by simp))
    have h2 := flds_body rows cols k cs (fun x hx => h x (by simp [hx]))
    have h3 := flds_cons_bytes (id := 129) (D := rep1 rows cols k c) (rest := cs.flatMap (replyL rows cols k)) (by unfold rep1; rw [List.length_cons]; omega)
    rw [List.flatMap_cons]
    show fldsOf ((bytesOf 129 (rep1 rows cols k c)).1 ++ cs.flatMap (replyL rows cols k)) = _
    rw [h3, h2]
    rfl
theorem reps_body {rows cols k : Int} {cs : List Int} (h : ∀ x ∈ cs, x ∈ codesL) : repsOf (bodyL rows cols k cs) = (cs.map (rep1 rows cols k), 0) := by
  unfold repsOf bodyL
  rw [if_neg (by simp), if_neg (by simp)]
  show repsR (fldsOf (cs.flatMap (replyL rows cols k))).1 (fldsOf (cs.flatMap (replyL rows cols k))).2 = _
  rw [flds_body rows cols k cs h]
  unfold repsR
  rw [if_neg, if_neg (by simp)]
  · simp [Function.comp_def]
  · rw [Bool.not_eq_true, List.any_eq_false]
    intro y hy
    obtain ⟨c, hc, rfl⟩ := List.mem_map.1 hy
    simp [badR, rep1]
theorem heads_body (rows cols k : Int) (cs : List Int) : (cs.map (rep1 rows cols k)).map hd = cs := by
  rw [List.map_map]
  have : (hd ∘ rep1 rows cols k) = id := by funext c; rfl
  rw [this, List.map_id]
theorem hit_area (rows cols k : Int) : hitOf (codesL.map (rep1 rows cols k)) 129 7 = some (rep1 rows cols k 129) := by
  refine hit_yes (j := 1) ?_ rfl rfl ?_
  · intro y hy
    have : y = rep1 rows cols k 128 := by simpa [codesL] using hy
    rw [this]; rfl
  · have := says_len (rows := rows) (cols := cols) (k := k) (code := 129) (by decide)
    have e : (saysL 129 rows cols k).length = 19 := by simp [saysL, twoL]
    unfold rep1
    rw [List.length_cons, e]
    omega
theorem hit_sets (rows cols k : Int) : hitOf (codesL.map (rep1 rows cols k)) 133 15 = some (rep1 rows cols k 133) := by
  refine hit_yes (j := 2) ?_ rfl rfl ?_
  · intro y hy
    have : y = rep1 rows cols k 128 ∨ y = rep1 rows cols k 129 := by simpa [codesL] using hy
    rcases this with h | h
    · rw [h]; rfl
    · rw [h]; rfl
  · have e : (saysL 133 rows cols k).length = 19 := by simp [saysL, twoL]
    unfold rep1
    rw [List.length_cons, e]
    omega
theorem area_rows (rows cols k : Int) : two_ (rep1 rows cols k 129) 5 = rows ∧ two_ (rep1 rows cols k 129) 3 = cols := by
  constructor
  · simp [two_, rep1, saysL, twoL]
    omega
  · simp [two_, rep1, saysL, twoL]
    omega
theorem sets_num (rows cols k : Int) : two_ (rep1 rows cols k 133) 13 = k := by
  simp [two_, rep1, saysL, twoL]
  omega
def none5 : List Int := [136, 0, 4, 129, 255]
theorem some_none (rows cols k : Int) : someL rows cols k [] = none5 := by
  unfold someL
  rw [if_pos (show ([] : List Int).length = 0 from rfl)]
  show [136] ++ fieldL 255 [] = none5
  decide
theorem reps_none : repsOf none5 = ([[255]], 0) := by decide +kernel
theorem some_yes {rows cols k : Int} {cs : List Int} (h : cs ≠ []) (hc : ∀ x ∈ cs, x ∈ codesL) : someL rows cols k cs = bodyL rows cols k cs ∧ bodyL rows cols k cs ≠ none5 := by
  have hl : cs.length ≠ 0 := fun e => h (List.eq_nil_of_length_eq_zero e)
  refine ⟨by unfold someL; rw [if_neg hl], fun e => ?_⟩
  have h1 := (body_len (rows := rows) (cols := cols) (k := k) cs hc).1
  rw [e] at h1
  simp [none5] at h1
  omega
end Go.Proofs.Ytfknakcjhlonoaa
