/-
  The document's words of fields, in plain terms: starts, places, first places, the nearest. No condition.
-/
import Derived.Test.YtjokcfenncogkaaPl13
namespace Go.Proofs.Ytjokcfenncogkaa
open Go.RowKit
set_option linter.unusedVariables false
set_option linter.unusedSimpArgs false

theorem start_self {X : Spc} (ok : X.Ok) {n : Int} (h : X.isA n = true) : X.start n = n % (X.r * X.c) := by
  have hb := ok.big
  have e : X.back n = some 0 := back_of (by omega) (by simpa using h) (by omega)
  rw [start_some e]; simp
theorem start_pred {X : Spc} (ok : X.Ok) {n : Int} (h : X.isA n = false) : X.start n = X.start (n - 1) := by
  by_cases hp : 0 < attrsN X.L
  · obtain ⟨d, h1, h2, h3, h4⟩ := back_some ok n hp
    have hd : d ≠ 0 := by
      rintro rfl
      rw [show n - ((0 : Nat) : Int) = n by simp, h] at h3
      cases h3
    have e : X.back (n - 1) = some (d - 1) := by
      refine back_of (by omega) ?_ fun j hj => ?_
      · rw [show n - 1 - ((d - 1 : Nat) : Int) = n - d by omega]; exact h3
      · rw [show n - 1 - (j : Int) = n - ((j + 1 : Nat) : Int) by omega]; exact h4 _ (by omega)
    rw [start_some h1, start_some e]
    congr 1; omega
  · rw [start_none ok n hp, start_none ok _ hp]
/-- of each place its field's attribute -/
def Spc.starts (X : Spc) : List Int := (List.range X.L.length).map fun k : Nat => X.start (k : Int)
theorem starts_len (X : Spc) : X.starts.length = X.L.length := by simp [Spc.starts]
theorem starts_at {X : Spc} {k : Nat} (h : k < X.L.length) : X.starts[k]? = some (X.start (k : Int)) := by simp [Spc.starts, h]
theorem those_last {f : Nat → Bool} {n : Nat} {l : List Int} {x : Int} (h : those f n = l ++ [x]) : ∃ k : Nat, x = k ∧ k < n ∧ f k = true ∧ ∀ j, k < j → j < n → f j = false := by
  induction n with
  | zero => simp [those] at h
  | succ n ih =>
    rw [those_succ] at h
    split at h
    · rename_i hf
      obtain ⟨_, e⟩ := List.append_inj' h rfl
      injection e with e
      exact ⟨n, e.symm, by omega, hf, fun j h1 h2 => by omega⟩
    · rename_i hf
      obtain ⟨k, h1, h2, h3, h4⟩ := ih h
      refine ⟨k, h1, by omega, h3, fun j h5 h6 => ?_⟩
      rcases Nat.lt_or_ge j n with h7 | h7
      · exact h4 j h5 h7
      · obtain rfl : j = n := by omega
        simpa using hf
theorem start_last {X : Spc} (ok : X.Ok) {l : List Int} {x : Int} (h : X.attrs = l ++ [x]) : X.start (-1) = x := by
  obtain ⟨k, rfl, h1, h2, h3⟩ := those_last h
  have hl := ok.len
  have e : X.back (-1) = some (X.L.length - 1 - k) := by
    refine back_of (by omega) ?_ fun j hj => ?_
    · rw [← h2, ← Spc.isA_nat ok h1]
      refine Spc.isA_congr ?_
      rw [show (-1 : Int) - ((X.L.length - 1 - k : Nat) : Int) = k - X.r * X.c by omega]
      simp
    · have e1 : X.isA (-1 - (j : Int)) = X.isA ((X.L.length - 1 - j : Nat) : Int) := by
        refine Spc.isA_congr ?_
        rw [show (-1 : Int) - (j : Int) = ((X.L.length - 1 - j : Nat) : Int) - X.r * X.c by omega]
        simp
      rw [e1, Spc.isA_nat ok (by omega)]
      exact h3 _ (by omega) (by omega)
  rw [start_some e, show (-1 : Int) - ((X.L.length - 1 - k : Nat) : Int) = k - X.r * X.c by omega, Int.sub_emod_right]
  exact Int.emod_eq_of_lt (by omega) (by omega)
theorem start_empty {X : Spc} (ok : X.Ok) (h : X.attrs = []) (n : Int) : X.start n = -1 := start_none ok n (by rw [← attrs_len13, h]; simp)
theorem start_step {X : Spc} (ok : X.Ok) {a : Int} (h : X.isA a = true) {j : Nat} (hj : j < X.cnt a) : X.start (a + 1 + j) = a % (X.r * X.c) := by
  obtain ⟨h1, h2, h3⟩ := cnt_is ok h
  have e : X.back (a + 1 + j) = some (j + 1) := by
    refine back_of (by omega) ?_ fun i hi => ?_
    · rw [show a + 1 + (j : Int) - ((j + 1 : Nat) : Int) = a by omega]; exact h
    · rw [show a + 1 + (j : Int) - (i : Int) = a + 1 + ((j - i : Nat) : Int) by omega]; exact h3 _ (by omega)
  rw [start_some e]; congr 1; omega
theorem start_end {X : Spc} (ok : X.Ok) {a : Int} (h : X.isA a = true) (hc : X.cnt a + 1 < X.L.length) : X.start (a + 1 + X.cnt a) ≠ a % (X.r * X.c) := by
  obtain ⟨h1, h2, h3⟩ := cnt_is ok h
  have hl := ok.len
  rw [start_self ok h2]
  intro e
  have h4 : ((a + 1 + (X.cnt a : Int)) % (X.r * X.c) - a % (X.r * X.c)) % (X.r * X.c) = 0 := by rw [e]; simp
  rw [Int.emod_sub_emod, Int.sub_emod_emod, show a + 1 + (X.cnt a : Int) - a = ((X.cnt a + 1 : Nat) : Int) by omega, Int.emod_eq_of_lt (by omega) (by omega)] at h4
  omega
theorem cnt_emod (X : Spc) (a : Int) : X.cnt (a % (X.r * X.c)) = X.cnt a := by
  unfold Spc.cnt
  congr 2
  funext d
  refine Spc.isA_congr ?_
  rw [Int.add_assoc, Int.add_assoc, Int.emod_add_emod]
theorem places_emod (X : Spc) (a : Int) : X.places (a % (X.r * X.c)) = X.places a := by
  unfold Spc.places
  rw [cnt_emod, Spc.isA_emod]
  congr 1
  unfold stepsL
  refine List.map_congr_left fun i _ => ?_
  rw [Int.add_assoc, Int.add_assoc, Int.emod_add_emod]
theorem places_nonempty {X : Spc} (ok : X.Ok) {a : Int} (h : X.isA a = true) : 0 < (X.places a).length ↔ X.isA (a + 1) = false := by
  obtain ⟨h1, h2, h3⟩ := cnt_is ok h
  unfold Spc.places
  rw [if_pos h, stepsL_len]
  constructor
  · intro hp
    simpa using h3 0 hp
  · intro hf
    rcases Nat.eq_zero_or_pos (X.cnt a) with e | e
    · rw [e] at h2
      simp only [Int.natCast_zero, Int.add_zero] at h2
      rw [hf] at h2; cases h2
    · exact e
/-- the first place of an unprotected field whose attribute stands at a -/
def Spc.firstOf (X : Spc) (a : Int) : List Int := if 0 < (X.places a).length ∧ fP (X.at_ a).fa = false then [(a + 1) % (X.r * X.c)] else []
def Spc.firsts (X : Spc) : List Int := X.attrs.flatMap X.firstOf
theorem mem_firsts {X : Spc} (ok : X.Ok) {f : Int} : f ∈ X.firsts ↔ 0 ≤ f ∧ f < X.r * X.c ∧ X.fst f = true := by
  have hp := Spc.pos ok
  have hl := ok.len
  unfold Spc.firsts
  rw [List.mem_flatMap]
  constructor
  · rintro ⟨a, ha, hf⟩
    obtain ⟨k, rfl, h1, h2⟩ := mem_those.1 ha
    unfold Spc.firstOf at hf
    split at hf
    · rename_i hc
      simp only [List.mem_singleton] at hf
      subst hf
      have hA : X.isA (k : Int) = true := by rw [Spc.isA_nat ok h1]; exact h2
      have h3 := (places_nonempty ok hA).1 hc.1
      refine ⟨Int.emod_nonneg _ (by omega), Int.emod_lt_of_pos _ hp, ?_⟩
      rw [fst_congr (b := (k : Int) + 1) (by simp)]
      unfold Spc.fst
      rw [show (k : Int) + 1 - 1 = k by omega, hA, h3, hc.2]; rfl
    · simp at hf
  · rintro ⟨h0, h1, h2⟩
    unfold Spc.fst at h2
    simp only [Bool.and_eq_true, Bool.not_eq_true'] at h2
    obtain ⟨⟨h3, h4⟩, h5⟩ := h2
    obtain ⟨e1, e2⟩ := ok.wrap (f - 1)
    have hA : X.isA (X.wrap (f - 1) : Int) = true := by rw [← e1, Spc.isA_emod]; exact h3
    have hn : X.isA ((X.wrap (f - 1) : Int) + 1) = false := by
      rw [← h4]
      refine Spc.isA_congr ?_
      rw [← e1, Int.emod_add_emod]; congr 1; omega
    refine ⟨(X.wrap (f - 1) : Int), mem_those.2 ⟨_, rfl, e2, by rw [← Spc.isA_nat ok e2]; exact hA⟩, ?_⟩
    unfold Spc.firstOf
    rw [if_pos ⟨(places_nonempty ok hA).2 hn, by rw [← e1, Spc.at_emod]; exact h5⟩]
    rw [← e1, Int.emod_add_emod, show f - 1 + 1 = f by omega, Int.emod_eq_of_lt h0 h1]
    simp
/-- how far, s by s -/
def distS (M wn s f : Int) : Int := if (s * (f - wn)) % M = 0 then M else (s * (f - wn)) % M
def stepN (M wn s : Int) (b : Int × Int) (f : Int) : Int × Int := if b.1 < 0 ∨ distS M wn s f < b.2 then (f, distS M wn s f) else b
def Best (M wn s : Int) (b : Int × Int) (S : List Int) : Prop := (b = (-1, 0) ∧ S = []) ∨ ∃ f, f ∈ S ∧ b = (f, distS M wn s f) ∧ ∀ g, g ∈ S → distS M wn s f ≤ distS M wn s g
theorem best_step {M wn s : Int} {b : Int × Int} {S : List Int} {f : Int} (h : Best M wn s b S) (hS : ∀ x, x ∈ S → 0 ≤ x) : Best M wn s (stepN M wn s b f) (S ++ [f]) := by
  rcases h with ⟨rfl, rfl⟩ | ⟨g, hg, rfl, hm⟩
  · right
    refine ⟨f, by simp, ?_, ?_⟩
    · unfold stepN; rw [if_pos (.inl (by simp))]
    · intro x hx
      simp at hx
      subst hx; exact Int.le_refl _
  · right
    have hg0 := hS g hg
    by_cases hd : distS M wn s f < distS M wn s g
    · refine ⟨f, by simp, ?_, ?_⟩
      · unfold stepN; rw [if_pos (.inr hd)]
      · intro x hx
        simp at hx
        rcases hx with hx | rfl
        · have := hm x hx; omega
        · exact Int.le_refl _
    · refine ⟨g, by simp [hg], ?_, ?_⟩
      · unfold stepN; rw [if_neg (by simp only; omega)]
      · intro x hx
        simp at hx
        rcases hx with hx | rfl
        · exact hm x hx
        · omega
theorem best_fold {M wn s : Int} (L : List Int) {b : Int × Int} {S : List Int} (h : Best M wn s b S) (hS : ∀ x, x ∈ S → 0 ≤ x) (hL : ∀ x, x ∈ L → 0 ≤ x) : Best M wn s (L.foldl (stepN M wn s) b) (S ++ L) := by
  induction L generalizing b S with
  | nil => simpa using h
  | cons f L ih =>
    have := ih (best_step (f := f) h hS) (fun x hx => by
      simp at hx
      rcases hx with hx | rfl
      · exact hS x hx
      · exact hL _ (by simp)) (fun x hx => hL x (by simp [hx]))
    simpa using this
theorem dist_back {M n s f : Int} (hs : s = 1 ∨ s = -1) (f0 : 0 ≤ f) (f1 : f < M) : (n + s * distS M (n % M) s f) % M = f ∧ 1 ≤ distS M (n % M) s f ∧ distS M (n % M) s f ≤ M := by
  have hM : 0 < M := by omega
  have hd : (distS M (n % M) s f) % M = (s * (f - n % M)) % M ∧ 1 ≤ distS M (n % M) s f ∧ distS M (n % M) s f ≤ M := by
    have h0 := Int.emod_nonneg (s * (f - n % M)) (show M ≠ 0 by omega)
    have h1 := Int.emod_lt_of_pos (s * (f - n % M)) hM
    unfold distS
    split
    · rename_i h; rw [h]; exact ⟨by simp, by omega, by omega⟩
    · exact ⟨by simp, by omega, by omega⟩
  obtain ⟨h1, h2, h3⟩ := hd
  refine ⟨?_, h2, h3⟩
  generalize distS M (n % M) s f = D at *
  rcases hs with rfl | rfl
  · rw [Int.one_mul] at h1 ⊢
    rw [← Int.add_emod_emod, h1, Int.add_emod_emod, show n + (f - n % M) = (n + f) - n % M by omega, Int.sub_emod_emod, show n + f - n = f by omega, Int.emod_eq_of_lt f0 f1]
  · rw [show n + -1 * D = n - D by omega, ← Int.sub_emod_emod, h1, Int.sub_emod_emod, show n - -1 * (f - n % M) = (n + f) - n % M by omega, Int.sub_emod_emod, show n + f - n = f by omega, Int.emod_eq_of_lt f0 f1]
theorem dist_of {M n s : Int} (hs : s = 1 ∨ s = -1) {j : Int} (j0 : 1 ≤ j) (j1 : j < M) : distS M (n % M) s ((n + s * j) % M) = j := by
  have h : (s * ((n + s * j) % M - n % M)) % M = j := by
    rcases hs with rfl | rfl
    · rw [Int.one_mul, Int.one_mul, Int.emod_sub_emod, Int.sub_emod_emod, show n + j - n = j by omega, Int.emod_eq_of_lt (by omega) j1]
    · rw [show -1 * ((n + -1 * j) % M - n % M) = n % M - (n + -1 * j) % M by omega, Int.emod_sub_emod, Int.sub_emod_emod, show n - (n + -1 * j) = j by omega, Int.emod_eq_of_lt (by omega) j1]
  unfold distS
  rw [h, if_neg (by omega)]
/-- the nearest of the first places is the first one, s by s -/
theorem next_find {X : Spc} (ok : X.Ok) (n : Int) {s : Int} (hs : s = 1 ∨ s = -1) : (X.firsts.foldl (stepN (X.r * X.c) (n % (X.r * X.c)) s) (-1, 0)).1 = X.find n s := by
  have hl := ok.len
  have hp := Spc.pos ok
  have hF : ∀ x, x ∈ X.firsts → 0 ≤ x := fun x hx => ((mem_firsts ok).1 hx).1
  have hb := best_fold (M := X.r * X.c) (wn := n % (X.r * X.c)) (s := s) X.firsts (b := (-1, 0)) (S := []) (.inl ⟨rfl, rfl⟩) (by simp) hF
  rw [List.nil_append] at hb
  rcases hb with ⟨h1, h2⟩ | ⟨f, hf, h1, h2⟩
  · rw [h1]
    have e : X.far n s = none := least_none.2 fun j hj => by
      cases hh : X.fst (n + s * ((j : Int) + 1))
      · rfl
      · have : (n + s * ((j : Int) + 1)) % (X.r * X.c) ∈ X.firsts := (mem_firsts ok).2 ⟨Int.emod_nonneg _ (by omega), Int.emod_lt_of_pos _ hp, by rw [← hh]; exact fst_congr (by simp)⟩
        rw [h2] at this
        simp at this
    unfold Spc.find
    rw [e]
  · rw [h1]
    obtain ⟨f0, f1, f2⟩ := (mem_firsts ok).1 hf
    obtain ⟨d1, d2, d3⟩ := dist_back (n := n) hs f0 f1
    obtain ⟨D, hD⟩ : ∃ D : Nat, distS (X.r * X.c) (n % (X.r * X.c)) s f = (D : Int) + 1 := ⟨(distS (X.r * X.c) (n % (X.r * X.c)) s f - 1).toNat, by omega⟩
    rw [hD] at d1 d2 d3
    have e : X.far n s = some D := by
      refine least_some.2 ⟨by omega, ?_, fun j hj => ?_⟩
      · rw [← f2]; exact fst_congr (by rw [d1, Int.emod_eq_of_lt f0 f1])
      · cases hh : X.fst (n + s * ((j : Int) + 1))
        · rfl
        · have hm : (n + s * ((j : Int) + 1)) % (X.r * X.c) ∈ X.firsts := (mem_firsts ok).2 ⟨Int.emod_nonneg _ (by omega), Int.emod_lt_of_pos _ hp, by rw [← hh]; exact fst_congr (by simp)⟩
          have := h2 _ hm
          rw [dist_of hs (by omega) (by omega), hD] at this
          omega
    unfold Spc.find
    rw [e]
    exact d1.symm
end Go.Proofs.Ytjokcfenncogkaa
