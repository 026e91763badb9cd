/-
  What the fields of a screen are, in plain terms. No condition.
-/
import Derived.Test.YtjokcfenncogkaaItAttrs
namespace Go.Proofs.Ytjokcfenncogkaa
open Go.RowKit
set_option linter.unusedVariables false
set_option linter.unusedSimpArgs false

theorem those_set13 (L : List Cl) (n : Nat) (h : n ≤ L.length) : (those (isAt L) n).length = ((L.take n).map cnt).sum := by
  induction n with
  | zero => simp [those]
  | succ n ih =>
    have hlt : n < L.length := by omega
    rw [those_succ, List.take_succ_eq_append_getElem hlt, List.map_append, List.sum_append, ← ih (by omega)]
    have e : isAt L n = (L[n]).at_ := isAt_of (List.getElem?_eq_getElem hlt)
    simp only [List.map_cons, List.map_nil, List.sum_cons, List.sum_nil]
    unfold cnt
    rw [e]
    by_cases h : (L[n]).at_ <;> simp [h]
theorem attrs_len13 (X : Spc) : X.attrs.length = attrsN X.L := by
  unfold Spc.attrs attrsN
  rw [those_set13 _ _ (Nat.le_refl _), List.take_length]
/-- the first one below n of which p holds -/
def least (p : Nat → Bool) (n : Nat) : Option Nat := (List.range n).find? p
theorem least_some {p : Nat → Bool} {n d : Nat} : least p n = some d ↔ d < n ∧ p d = true ∧ ∀ j, j < d → p j = false := by
  unfold least
  rw [List.find?_range_eq_some]
  simp only [List.mem_range, Bool.not_eq_true']
  constructor
  · rintro ⟨h1, h2, h3⟩; exact ⟨h2, h1, h3⟩
  · rintro ⟨h1, h2, h3⟩; exact ⟨h2, h1, h3⟩
theorem least_none {p : Nat → Bool} {n : Nat} : least p n = none ↔ ∀ j, j < n → p j = false := by
  unfold least
  simp
theorem least_of {p : Nat → Bool} {n k : Nat} (hk : k < n) (hp : p k = true) : ∃ d, least p n = some d ∧ d ≤ k ∧ d < n ∧ p d = true ∧ ∀ j, j < d → p j = false := by
  cases h : least p n with
  | none => rw [least_none.1 h k hk] at hp; cases hp
  | some d =>
    obtain ⟨h1, h2, h3⟩ := least_some.1 h
    refine ⟨d, rfl, ?_, h1, h2, h3⟩
    rcases Nat.lt_or_ge k d with h4 | h4
    · rw [h3 k h4] at hp; cases hp
    · exact h4
def Spc.isA (X : Spc) (n : Int) : Bool := (X.at_ n).at_
theorem Spc.at_congr {X : Spc} {a b : Int} (h : a % (X.r * X.c) = b % (X.r * X.c)) : X.at_ a = X.at_ b := by
  unfold Spc.at_ Spc.wrap
  rw [h]
theorem Spc.at_emod (X : Spc) (n : Int) : X.at_ (n % (X.r * X.c)) = X.at_ n := Spc.at_congr (by simp)
theorem Spc.isA_congr {X : Spc} {a b : Int} (h : a % (X.r * X.c) = b % (X.r * X.c)) : X.isA a = X.isA b := by
  unfold Spc.isA
  rw [Spc.at_congr h]
theorem Spc.isA_emod (X : Spc) (n : Int) : X.isA (n % (X.r * X.c)) = X.isA n := Spc.isA_congr (by simp)
theorem Spc.isA_nat {X : Spc} (ok : X.Ok) {k : Nat} (h : k < X.L.length) : X.isA (k : Int) = isAt X.L k := by
  have h1 := Spc.at_nat ok h
  exact (isAt_of h1).symm
theorem Spc.pos {X : Spc} (ok : X.Ok) : 0 < X.r * X.c := by have := ok.len; have := ok.big; omega
theorem attrsN_pos {X : Spc} : 0 < attrsN X.L ↔ ∃ k, k < X.L.length ∧ isAt X.L k = true := by
  rw [← attrs_len13]
  constructor
  · intro h
    obtain ⟨x, hx⟩ := List.exists_mem_of_length_pos h
    obtain ⟨k, rfl, h1, h2⟩ := mem_those.1 hx
    exact ⟨k, h1, h2⟩
  · rintro ⟨k, h1, h2⟩
    have : (k : Int) ∈ X.attrs := mem_those.2 ⟨k, rfl, h1, h2⟩
    exact List.length_pos_of_mem this
/-- how far behind n its field's attribute stands -/
def Spc.back (X : Spc) (n : Int) : Option Nat := least (fun d => X.isA (n - d)) X.L.length
def Spc.start (X : Spc) (n : Int) : Int := match X.back n with | some d => (n - d) % (X.r * X.c) | none => -1
theorem back_none {X : Spc} (ok : X.Ok) (n : Int) (h : ¬ 0 < attrsN X.L) : X.back n = none := by
  refine least_none.2 fun d hd => ?_
  rw [attrsN_pos] at h
  obtain ⟨e1, e2⟩ := ok.wrap (n - d)
  rw [← Spc.isA_emod, e1, Spc.isA_nat ok e2]
  cases hh : isAt X.L (X.wrap (n - d))
  · rfl
  · exact absurd ⟨_, e2, hh⟩ h
theorem back_some {X : Spc} (ok : X.Ok) (n : Int) (h : 0 < attrsN X.L) : ∃ d, X.back n = some d ∧ d < X.L.length ∧ X.isA (n - d) = true ∧ ∀ j : Nat, j < d → X.isA (n - j) = false := by
  obtain ⟨k, h1, h2⟩ := attrsN_pos.1 h
  obtain ⟨e1, e2⟩ := ok.wrap (n - k)
  have hp : X.isA (n - (X.wrap (n - k) : Int)) = true := by
    rw [← e1]
    have : X.isA (n - (n - (k : Int)) % (X.r * X.c)) = X.isA (k : Int) := Spc.isA_congr (by rw [Int.sub_emod_emod]; congr 1; omega)
    rw [this, Spc.isA_nat ok h1, h2]
  obtain ⟨d, a1, a2, a3, a4, a5⟩ := least_of (p := fun d => X.isA (n - d)) e2 hp
  exact ⟨d, a1, a3, a4, a5⟩
theorem start_none {X : Spc} (ok : X.Ok) (n : Int) (h : ¬ 0 < attrsN X.L) : X.start n = -1 := by unfold Spc.start; rw [back_none ok n h]
theorem back_of {X : Spc} {n : Int} {d : Nat} (h1 : d < X.L.length) (h2 : X.isA (n - d) = true) (h3 : ∀ j : Nat, j < d → X.isA (n - j) = false) : X.back n = some d := least_some.2 ⟨h1, h2, h3⟩
theorem start_some {X : Spc} {n : Int} {d : Nat} (h : X.back n = some d) : X.start n = (n - d) % (X.r * X.c) := by unfold Spc.start; rw [h]
theorem start_emod {X : Spc} (n : Int) : X.start (n % (X.r * X.c)) = X.start n := by
  have e : X.back (n % (X.r * X.c)) = X.back n := by
    unfold Spc.back
    congr 1
    funext d
    exact Spc.isA_congr (by rw [Int.emod_sub_emod])
  unfold Spc.start
  rw [e]
  cases X.back n with
  | none => rfl
  | some d => exact Int.emod_sub_emod ..
/-- a place after k steps ahead or back -/
theorem dist_up {M n : Int} {j d : Nat} (hj : j ≤ d) (hd : (d : Int) < M) : (((n + d) % M - (n + j) % M) % M).toNat = d - j := by
  have : ((n + d) % M - (n + j) % M) % M = ((d - j : Nat) : Int) := by
    rw [Int.emod_sub_emod, Int.sub_emod_emod]
    rw [show n + (d : Int) - (n + j) = ((d - j : Nat) : Int) by omega]
    exact Int.emod_eq_of_lt (by omega) (by omega)
  rw [this]; simp
theorem dist_dn {M n : Int} {j d : Nat} (hj : j ≤ d) (hd : (d : Int) < M) : (((n - j) % M - (n - d) % M) % M).toNat = d - j := by
  have : ((n - j) % M - (n - d) % M) % M = ((d - j : Nat) : Int) := by
    rw [Int.emod_sub_emod, Int.sub_emod_emod]
    rw [show n - (j : Int) - (n - d) = ((d - j : Nat) : Int) by omega]
    exact Int.emod_eq_of_lt (by omega) (by omega)
  rw [this]; simp
/-- is it the first place of an unprotected field? -/
def Spc.fst (X : Spc) (n : Int) : Bool := X.isA (n - 1) && !X.isA n && !fP (X.at_ (n - 1)).fa
theorem fst_congr {X : Spc} {a b : Int} (h : a % (X.r * X.c) = b % (X.r * X.c)) : X.fst a = X.fst b := by
  have h1 : (a - 1) % (X.r * X.c) = (b - 1) % (X.r * X.c) := by rw [← Int.emod_sub_emod, h, Int.emod_sub_emod]
  unfold Spc.fst
  rw [Spc.isA_congr h, Spc.isA_congr h1, Spc.at_congr h1]
def Spc.far (X : Spc) (n s : Int) : Option Nat := least (fun d => X.fst (n + s * (d + 1))) X.L.length
/-- the first such place, s by s -/
def Spc.find (X : Spc) (n s : Int) : Int := match X.far n s with | some d => (n + s * (d + 1)) % (X.r * X.c) | none => -1
theorem find_emod {X : Spc} (n s : Int) : X.find (n % (X.r * X.c)) s = X.find n s := by
  have e : X.far (n % (X.r * X.c)) s = X.far n s := by
    unfold Spc.far
    congr 1
    funext d
    exact fst_congr (by rw [Int.emod_add_emod])
  unfold Spc.find
  rw [e]
  cases X.far n s with
  | none => rfl
  | some d => exact Int.emod_add_emod ..
/-- how many places a field has -/
def Spc.cnt (X : Spc) (a : Int) : Nat := (least (fun d => X.isA (a + 1 + d)) X.L.length).getD 0
def stepsL (X : Spc) (a : Int) (n : Nat) : List Int := (List.range n).map fun i : Nat => (a + 1 + i) % (X.r * X.c)
theorem stepsL_succ (X : Spc) (a : Int) (n : Nat) : stepsL X a (n + 1) = stepsL X a n ++ [(a + 1 + n) % (X.r * X.c)] := by
  unfold stepsL
  rw [List.range_succ, List.map_append]; rfl
theorem stepsL_len (X : Spc) (a : Int) (n : Nat) : (stepsL X a n).length = n := by simp [stepsL]
def Spc.places (X : Spc) (a : Int) : List Int := if X.isA a then stepsL X a (X.cnt a) else []
theorem cnt_is {X : Spc} (ok : X.Ok) {a : Int} (h : X.isA a = true) : X.cnt a < X.L.length ∧ X.isA (a + 1 + X.cnt a) = true ∧ ∀ j : Nat, j < X.cnt a → X.isA (a + 1 + j) = false := by
  have hl := ok.len
  have hb := ok.big
  have hp : X.isA (a + 1 + ((X.L.length - 1 : Nat) : Int)) = true := by
    rw [← h]
    refine Spc.isA_congr ?_
    rw [show a + 1 + ((X.L.length - 1 : Nat) : Int) = a + X.r * X.c by omega]
    simp
  obtain ⟨d, a1, a2, a3, a4, a5⟩ := least_of (p := fun d => X.isA (a + 1 + d)) (n := X.L.length) (by omega) hp
  unfold Spc.cnt
  rw [a1]
  exact ⟨a3, a4, a5⟩
theorem cnt_of {X : Spc} {a : Int} {d : Nat} (h1 : d < X.L.length) (h2 : X.isA (a + 1 + d) = true) (h3 : ∀ j : Nat, j < d → X.isA (a + 1 + j) = false) : X.cnt a = d := by
  unfold Spc.cnt
  rw [least_some.2 ⟨h1, h2, h3⟩]; rfl
end Go.Proofs.Ytjokcfenncogkaa
