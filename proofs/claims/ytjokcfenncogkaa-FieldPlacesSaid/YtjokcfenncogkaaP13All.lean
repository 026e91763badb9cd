/-
  Boxes of a function that hold still beside an iterator's own blocks. No condition.
  The first places of unprotected fields, rising: the next one of each. No condition.
  All fields' places and attributes are the screen, if there is one. No condition.
  slices.Equal over ints (EqI's, with a shorter chain of imports). No condition.
  A box that holds the bytes that have come. No condition.
  An append of a byte that lies anywhere to a box of bytes, in a round. No condition.
  The document's Text. No condition.
  field's Text. No condition.
  field's Unprotected: how many places there are in unprotected fields. No condition.
  The law's places: a field's first ones, at most so many. No condition.
-/
import Derived.Test.YtjokcfenncogkaaRf
import Derived.Stop.RegionWithIn
import Derived.Shelf.Abstract
import Derived.Test.YtjokcfenncogkaaPl13b
import Derived.Test.YtjokcfenncogkaaItAttrs
import Derived.Test.YtjokcfenncogkaaCollN
import Derived.Test.YtjokcfenncogkaaListB
import Derived.Test.YtjokcfenncogkaaMixIn
import Derived.Test.YtjokcfenncogkaaRf13c
import Derived.Test.YtjokcfenncogkaaLen13
import Derived.Test.YtjokcfenncogkaaFields13
namespace Go.Proofs.Ytjokcfenncogkaa
open Go.RowKit Go.Shelf
set_option linter.unusedVariables false
set_option linter.unusedSimpArgs false

/-- the box b holds v, and is no other's -/
structure BoxAt (N : Nat → Prop) (W : World) (b : Nat) (v : Value) : Prop where
  c : W.cell? ⟨b, 0, none⟩ = some v
  f : W.frozen? ⟨b, 0, none⟩ = false
  n : ¬ N b
theorem BoxAt.lt {N : Nat → Prop} {W : World} {b : Nat} {v : Value} (h : BoxAt N W b v) : b < W.heap.size := cell_lt h.c
theorem BoxAt.keep {N N' : Nat → Prop} {W W' : World} {b : Nat} {v : Value} (h : BoxAt N W b v) (hk : Keep N W W') (hn : ∀ k, N' k → N k ∨ (W.heap.size ≤ k ∧ k < W'.heap.size)) : BoxAt N' W' b v := by
  have z := h.lt
  refine ⟨((hk.at_ b z h.n).1 0).trans h.c, ((hk.at_ b z h.n).2 0).trans h.f, fun e => ?_⟩
  rcases hn _ e with e | e
  · exact h.n e
  · omega
theorem BoxAt.up {N : Nat → Prop} {W W' : World} {b : Nat} {v : Value} (h : BoxAt N W b v) (hu : Up W W') : BoxAt N W' b v := h.keep (Keep.of_up hu) (fun _ h => .inl h)
theorem BoxAt.other {N : Nat → Prop} {W : World} {b : Nat} {v : Value} (h : BoxAt N W b v) {b' : Nat} (u : Value) (hb : b' ≠ b) : BoxAt N (W.setCell ⟨b', 0, none⟩ u) b v :=
  ⟨(World.cell?_setCell_other _ _ _ _ (fun e => hb (by injection e))).trans h.c, by rw [World.frozen?_setCell]; exact h.f, h.n⟩
theorem BoxAt.set {N : Nat → Prop} {W : World} {b : Nat} {v : Value} (h : BoxAt N W b v) (u : Value) : BoxAt N (W.setCell ⟨b, 0, none⟩ u) b u :=
  ⟨World.cell?_setCell_same (h := h.c) .., by rw [World.frozen?_setCell]; exact h.f, h.n⟩
theorem BoxAt.held {N : Nat → Prop} {W : World} {b : Nat} {v : Value} (h : BoxAt N W b v) (u : Value) : Held N W (W.setCell ⟨b, 0, none⟩ u) := fun k hk => Below.heap_setCell W ⟨b, 0, none⟩ _ k (fun e => h.n (by simp only at e; subst e; exact hk))
theorem BoxAt.put {N : Nat → Prop} {W : World} {b : Nat} {v : Value} (h : BoxAt N W b v) {D : Nat} (o : Obj) (hD : N D) : BoxAt N (W.putObj D o) b v := h.keep (keep_put o hD) (fun _ h => .inl h)
/-- old blocks as they were, the iterator's own are new -/
structure UpN (w : World) (N : Nat → Prop) (W : World) : Prop where
  up : Up w W
  nw : ∀ k, N k → w.heap.size ≤ k
theorem UpN.keep {w : World} {N N' : Nat → Prop} {W W' : World} (h : UpN w N W) (hk : Keep N W W') (hn : ∀ k, N' k → N k ∨ (W.heap.size ≤ k ∧ k < W'.heap.size)) : UpN w N' W' := by
  refine ⟨h.up.keep hk h.nw, fun k e => ?_⟩
  rcases hn _ e with e | e
  · exact h.nw k e
  · have := h.up.size; omega
theorem UpN.up2 {w : World} {N : Nat → Prop} {W W' : World} (h : UpN w N W) (hu : Up W W') : UpN w N W' := ⟨h.up.trans hu, h.nw⟩
theorem UpN.set {w : World} {N : Nat → Prop} {W : World} (h : UpN w N W) {b : Nat} (hb : w.heap.size ≤ b) (u : Value) : UpN w N (W.setCell ⟨b, 0, none⟩ u) := ⟨h.up.setCell hb u, h.nw⟩
theorem UpN.put {w : World} {N : Nat → Prop} {W : World} (h : UpN w N W) {D : Nat} (o : Obj) (hD : N D) : Up w (W.putObj D o) := h.up.keep (keep_put (N := N) o hD) h.nw
end Go.Proofs.Ytjokcfenncogkaa
namespace Go.Proofs.Ytjokcfenncogkaa
open Go.RowKit
set_option linter.unusedVariables false
set_option linter.unusedSimpArgs false

theorem emod_small {M x : Int} (h1 : -M ≤ x) (h2 : x < M) : x % M = if x < 0 then x + M else x := by
  split
  · rw [← Int.add_emod_right, Int.emod_eq_of_lt (by omega) (by omega)]
  · exact Int.emod_eq_of_lt (by omega) h2
/-- the places of X where a tab may come to, rising -/
def Spc.tabs (X : Spc) : List Int := those (fun k => X.fst (k : Int)) X.L.length
theorem mem_tabs {X : Spc} (ok : X.Ok) {x : Int} : x ∈ X.tabs ↔ 0 ≤ x ∧ x < X.r * X.c ∧ X.fst x = true := by
  have hl := ok.len
  unfold Spc.tabs
  rw [mem_those]
  constructor
  · rintro ⟨k, rfl, h1, h2⟩; exact ⟨by omega, by omega, h2⟩
  · rintro ⟨h0, h1, h2⟩
    refine ⟨x.toNat, by omega, by omega, ?_⟩
    rw [show ((x.toNat : Nat) : Int) = x by omega]; exact h2
theorem those_sorted (f : Nat → Bool) (n : Nat) : (those f n).Pairwise (· < ·) := by
  induction n with
  | zero => simp [those]
  | succ n ih =>
    rw [those_succ]
    split
    · rw [List.pairwise_append]
      refine ⟨ih, by simp, fun a ha b hb => ?_⟩
      obtain ⟨k, rfl, h1, _⟩ := mem_those.1 ha
      simp at hb
      omega
    · exact ih
theorem sorted_at {T : List Int} (h : T.Pairwise (· < ·)) {i j : Nat} (hij : i < j) (hj : j < T.length) : T.getD i 0 < T.getD j 0 := by
  have := List.pairwise_iff_getElem.1 h i j (by omega) hj hij
  rw [List.getD, List.getD, List.getElem?_eq_getElem (by omega), List.getElem?_eq_getElem hj]
  exact this
theorem mem_at {T : List Int} {x : Int} (h : x ∈ T) : ∃ t, t < T.length ∧ T.getD t 0 = x := by
  obtain ⟨t, ht, rfl⟩ := List.getElem_of_mem h
  exact ⟨t, ht, by rw [List.getD, List.getElem?_eq_getElem ht]; rfl⟩
theorem at_mem {T : List Int} {i : Nat} (h : i < T.length) : T.getD i 0 ∈ T := by
  rw [List.getD, List.getElem?_eq_getElem h]; exact List.getElem_mem h
theorem find_to {X : Spc} (ok : X.Ok) {a b s : Int} (hs : s = 1 ∨ s = -1) (b0 : 0 ≤ b) (b1 : b < X.r * X.c) (hf : X.fst b = true)
    (hc : ∀ k, 0 ≤ k → k < X.r * X.c → X.fst k = true → (s * (b - a) - 1) % (X.r * X.c) ≤ (s * (k - a) - 1) % (X.r * X.c)) : X.find a s = b := by
  have hp := Spc.pos ok
  have hl := ok.len
  obtain ⟨D, hD⟩ : ∃ D : Nat, (s * (b - a) - 1) % (X.r * X.c) = (D : Int) := ⟨((s * (b - a) - 1) % (X.r * X.c)).toNat, by have := Int.emod_nonneg (s * (b - a) - 1) (show X.r * X.c ≠ 0 by omega); omega⟩
  have hDM : (D : Int) < X.r * X.c := by rw [← hD]; exact Int.emod_lt_of_pos _ hp
  have hb : (a + s * ((D : Int) + 1)) % (X.r * X.c) = b := by
    rw [← hD]
    rcases hs with rfl | rfl
    · rw [Int.one_mul, Int.one_mul, ← Int.add_assoc, Int.add_right_comm, Int.add_emod_emod, show a + 1 + (b - a - 1) = b by omega, Int.emod_eq_of_lt b0 b1]
    · rw [show a + -1 * ((-1 * (b - a) - 1) % (X.r * X.c) + 1) = a - 1 - (-1 * (b - a) - 1) % (X.r * X.c) by omega, Int.sub_emod_emod, show a - 1 - (-1 * (b - a) - 1) = b by omega, Int.emod_eq_of_lt b0 b1]
  have hfar : X.far a s = some D := by
    refine least_some.2 ⟨by omega, ?_, fun j hj => ?_⟩
    · rw [← hf]; exact fst_congr (by rw [hb, Int.emod_eq_of_lt b0 b1])
    · cases hh : X.fst (a + s * ((j : Int) + 1))
      · rfl
      · have h1 := hc ((a + s * ((j : Int) + 1)) % (X.r * X.c)) (Int.emod_nonneg _ (by omega)) (Int.emod_lt_of_pos _ hp) (by rw [← hh]; exact fst_congr (by simp))
        rw [hD] at h1
        have h2 : (s * ((a + s * ((j : Int) + 1)) % (X.r * X.c) - a) - 1) % (X.r * X.c) = (j : Int) := by
          rcases hs with rfl | rfl
          · rw [Int.one_mul, Int.one_mul, show (a + ((j : Int) + 1)) % (X.r * X.c) - a - 1 = (a + ((j : Int) + 1)) % (X.r * X.c) - (a + 1) by omega, Int.emod_sub_emod, show a + ((j : Int) + 1) - (a + 1) = (j : Int) by omega, Int.emod_eq_of_lt (by omega) (by omega)]
          · rw [show -1 * ((a + -1 * ((j : Int) + 1)) % (X.r * X.c) - a) - 1 = a - 1 - (a + -1 * ((j : Int) + 1)) % (X.r * X.c) by omega, Int.sub_emod_emod, show a - 1 - (a + -1 * ((j : Int) + 1)) = (j : Int) by omega, Int.emod_eq_of_lt (by omega) (by omega)]
        omega
  unfold Spc.find
  rw [hfar]
  exact hb
theorem find_empty {X : Spc} (ok : X.Ok) (h : X.tabs = []) (n s : Int) : X.find n s = -1 := by
  have hp := Spc.pos ok
  have e : X.far n s = none := least_none.2 fun j hj => by
    cases hh : X.fst (n + s * ((j : Int) + 1))
    · rfl
    · have : (n + s * ((j : Int) + 1)) % (X.r * X.c) ∈ X.tabs := (mem_tabs ok).2 ⟨Int.emod_nonneg _ (by omega), Int.emod_lt_of_pos _ hp, by rw [← hh]; exact fst_congr (by simp)⟩
      rw [h] at this
      simp at this
  unfold Spc.find
  rw [e]
/-- the facts of the places, with T for them -/
theorem tabs_facts {X : Spc} (ok : X.Ok) {i : Nat} (hi : i < X.tabs.length) : 0 ≤ X.tabs.getD i 0 ∧ X.tabs.getD i 0 < X.r * X.c ∧ X.fst (X.tabs.getD i 0) = true := (mem_tabs ok).1 (at_mem hi)
theorem sorted_le {T : List Int} (h : T.Pairwise (· < ·)) {i j : Nat} (hij : i ≤ j) (hj : j < T.length) : T.getD i 0 ≤ T.getD j 0 := by
  rcases Nat.eq_or_lt_of_le hij with rfl | h'
  · exact Int.le_refl _
  · exact Int.le_of_lt (sorted_at h h' hj)
/-- nothing of a rising list lies between one of it and the next, round -/
theorem gap {T : List Int} (h : T.Pairwise (· < ·)) {i : Nat} (hi : i < T.length) {k : Int} (hk : k ∈ T) :
    (T.getD i 0 < T.getD ((i + 1) % T.length) 0 ∧ (k ≤ T.getD i 0 ∨ T.getD ((i + 1) % T.length) 0 ≤ k)) ∨ (T.getD ((i + 1) % T.length) 0 ≤ T.getD i 0 ∧ T.getD ((i + 1) % T.length) 0 ≤ k ∧ k ≤ T.getD i 0) := by
  obtain ⟨t, ht, rfl⟩ := mem_at hk
  rcases Nat.lt_or_ge (i + 1) T.length with hl | hl
  · left
    rw [Nat.mod_eq_of_lt hl]
    refine ⟨sorted_at h (by omega) hl, ?_⟩
    rcases Nat.lt_or_ge t (i + 1) with h1 | h1
    · exact .inl (sorted_le h (by omega) hi)
    · exact .inr (sorted_le h h1 ht)
  · right
    rw [show i + 1 = T.length by omega, Nat.mod_self]
    exact ⟨sorted_le h (by omega) hi, sorted_le h (by omega) ht, sorted_le h (by omega) hi⟩
theorem cyc {M a b k : Int} (a0 : 0 ≤ a) (a1 : a < M) (b0 : 0 ≤ b) (b1 : b < M) (k0 : 0 ≤ k) (k1 : k < M) (h : (a < b ∧ (k ≤ a ∨ b ≤ k)) ∨ (b ≤ a ∧ b ≤ k ∧ k ≤ a)) :
    (1 * (b - a) - 1) % M ≤ (1 * (k - a) - 1) % M ∧ (-1 * (a - b) - 1) % M ≤ (-1 * (k - b) - 1) % M := by
  rw [emod_small (by omega) (by omega), emod_small (by omega) (by omega), emod_small (by omega) (by omega), emod_small (by omega) (by omega)]
  constructor
  · split <;> split <;> omega
  · split <;> split <;> omega
theorem find_first {X : Spc} (ok : X.Ok) (h : 0 < X.tabs.length) : X.find (-1) 1 = X.tabs.getD 0 0 := by
  obtain ⟨h0, h1, h2⟩ := tabs_facts ok h
  refine find_to ok (.inl rfl) h0 h1 h2 fun k k0 k1 k2 => ?_
  obtain ⟨t, ht, e⟩ := mem_at ((mem_tabs ok).2 ⟨k0, k1, k2⟩)
  have hs : X.tabs.getD 0 0 ≤ k := by rw [← e]; exact sorted_le (those_sorted _ _) (by omega) ht
  rw [emod_small (by omega) (by omega), emod_small (by omega) (by omega)]
  split <;> split <;> omega
theorem find_next {X : Spc} (ok : X.Ok) {i : Nat} (hi : i < X.tabs.length) : X.find (X.tabs.getD i 0) 1 = X.tabs.getD ((i + 1) % X.tabs.length) 0 := by
  have hlt : (i + 1) % X.tabs.length < X.tabs.length := Nat.mod_lt _ (by omega)
  obtain ⟨h0, h1, h2⟩ := tabs_facts ok hlt
  obtain ⟨a0, a1, a2⟩ := tabs_facts ok hi
  exact find_to ok (.inl rfl) h0 h1 h2 fun k k0 k1 k2 => (cyc a0 a1 h0 h1 k0 k1 (gap (those_sorted _ _) hi ((mem_tabs ok).2 ⟨k0, k1, k2⟩))).1
theorem find_prev {X : Spc} (ok : X.Ok) {i : Nat} (hi : i < X.tabs.length) : X.find (X.tabs.getD ((i + 1) % X.tabs.length) 0) (-1) = X.tabs.getD i 0 := by
  have hlt : (i + 1) % X.tabs.length < X.tabs.length := Nat.mod_lt _ (by omega)
  obtain ⟨h0, h1, h2⟩ := tabs_facts ok hlt
  obtain ⟨a0, a1, a2⟩ := tabs_facts ok hi
  exact find_to ok (.inr rfl) a0 a1 a2 fun k k0 k1 k2 => (cyc a0 a1 h0 h1 k0 k1 (gap (those_sorted _ _) hi ((mem_tabs ok).2 ⟨k0, k1, k2⟩))).2
theorem tabs_len {X : Spc} : X.tabs.length ≤ X.L.length := those_len _ _
theorem tabs_ne {X : Spc} {i : Nat} (h0 : 0 < i) (hi : i < X.tabs.length) : X.tabs.getD i 0 ≠ X.tabs.getD 0 0 := by
  have h : X.tabs.Pairwise (· < ·) := those_sorted _ _
  have := sorted_at h h0 hi
  omega
end Go.Proofs.Ytjokcfenncogkaa
namespace Go.Proofs.Ytjokcfenncogkaa
open Go.RowKit
set_option linter.unusedVariables false
set_option linter.unusedSimpArgs false

def allTo (X : Spc) (l : List Int) : Nat := (l.map fun a => 1 + (X.places a).length).sum
theorem allTo_snoc (X : Spc) (l : List Int) (a : Int) : allTo X (l ++ [a]) = allTo X l + (1 + (X.places a).length) := by simp [allTo]
theorem attr_at {X : Spc} (ok : X.Ok) {a : Int} (h : a ∈ X.attrs) : 0 ≤ a ∧ a < X.r * X.c ∧ X.isA a = true := by
  obtain ⟨k, rfl, h1, h2⟩ := mem_those.1 h
  have hl := ok.len
  exact ⟨by omega, by omega, by rw [Spc.isA_nat ok h1]; exact h2⟩
theorem attr_mem {X : Spc} (ok : X.Ok) {a : Int} (h0 : 0 ≤ a) (h1 : a < X.r * X.c) (h : X.isA a = true) : a ∈ X.attrs := by
  have hl := ok.len
  have e : ((a.toNat : Nat) : Int) = a := by omega
  refine mem_those.2 ⟨a.toNat, by omega, by omega, ?_⟩
  rw [← Spc.isA_nat ok (by omega), e]; exact h
theorem attrs_sorted (X : Spc) : X.attrs.Pairwise (· < ·) := those_sorted _ _
theorem places_cnt {X : Spc} {a : Int} (h : X.isA a = true) : (X.places a).length = X.cnt a := by
  unfold Spc.places
  rw [if_pos h, stepsL_len]
/-- how many steps from one attribute to the next -/
theorem cnt_next {X : Spc} (ok : X.Ok) {i : Nat} (hi : i < X.attrs.length) : ((1 + (X.places (X.attrs.getD i 0)).length : Nat) : Int) = if i + 1 < X.attrs.length then X.attrs.getD (i + 1) 0 - X.attrs.getD i 0 else X.attrs.getD 0 0 + X.r * X.c - X.attrs.getD i 0 := by
  have hs := attrs_sorted X
  obtain ⟨a0, a1, a2⟩ := attr_at ok (at_mem hi)
  have hp := Spc.pos ok
  have hl := ok.len
  have hg := fun k hk => gap hs hi (k := k) hk
  rw [places_cnt a2]
  split
  · rename_i hlt
    obtain ⟨b0, b1, b2⟩ := attr_at ok (at_mem hlt)
    have hab := sorted_at hs (show i < i + 1 by omega) hlt
    rw [Nat.mod_eq_of_lt hlt] at hg
    generalize X.attrs.getD i 0 = a at *
    generalize X.attrs.getD (i + 1) 0 = b at *
    rw [cnt_of (d := (b - a - 1).toNat) (by omega) (by rw [show a + 1 + (((b - a - 1).toNat : Nat) : Int) = b by omega]; exact b2) (fun j hj => by
      cases hh : X.isA (a + 1 + (j : Int))
      · rfl
      · have h1 := hg _ (attr_mem ok (by omega) (by omega) hh)
        omega)]
    omega
  · rename_i hlt
    have h0 : 0 < X.attrs.length := by omega
    obtain ⟨b0, b1, b2⟩ := attr_at ok (at_mem h0)
    have hab := sorted_le hs (show 0 ≤ i by omega) hi
    rw [show i + 1 = X.attrs.length by omega, Nat.mod_self] at hg
    generalize X.attrs.getD i 0 = a at *
    generalize X.attrs.getD 0 0 = b at *
    rw [cnt_of (d := (b + X.r * X.c - a - 1).toNat) (by omega) (by
        rw [show a + 1 + (((b + X.r * X.c - a - 1).toNat : Nat) : Int) = b + X.r * X.c by omega, ← b2]; exact Spc.isA_congr (by simp)) (fun j hj => by
      cases hh : X.isA (a + 1 + (j : Int))
      · rfl
      · rcases Int.lt_or_le (a + 1 + (j : Int)) (X.r * X.c) with h2 | h2
        · have h1 := hg _ (attr_mem ok (by omega) h2 hh)
          omega
        · have h3 : X.isA (a + 1 + (j : Int) - X.r * X.c) = true := by rw [← hh]; exact Spc.isA_congr (by simp)
          have h1 := hg _ (attr_mem ok (by omega) (by omega) h3)
          omega)]
    omega
theorem all_sum {X : Spc} (ok : X.Ok) : ∀ j, j ≤ X.attrs.length → 0 < X.attrs.length → (allTo X (X.attrs.take j) : Int) = if j < X.attrs.length then X.attrs.getD j 0 - X.attrs.getD 0 0 else X.r * X.c := by
  intro j
  induction j with
  | zero => intro _ h; rw [if_pos h]; simp [allTo]
  | succ j ih =>
    intro hj h
    have hj' : j < X.attrs.length := by omega
    have h1 := ih (by omega) h
    rw [if_pos hj'] at h1
    have h2 := cnt_next ok hj'
    have e : X.attrs.take (j + 1) = X.attrs.take j ++ [X.attrs.getD j 0] := by
      rw [List.take_succ_eq_append_getElem hj', List.getD, List.getElem?_eq_getElem hj']; rfl
    rw [e, allTo_snoc]
    by_cases hlt : j + 1 < X.attrs.length
    · rw [if_pos hlt] at h2 ⊢
      omega
    · rw [if_neg hlt] at h2 ⊢
      omega
theorem all_is {X : Spc} (ok : X.Ok) (h : 0 < X.attrs.length) : allTo X X.attrs = X.L.length := by
  have h1 := all_sum ok X.attrs.length (Nat.le_refl _) h
  rw [if_neg (by omega), List.take_length] at h1
  have := ok.len
  omega
end Go.Proofs.Ytjokcfenncogkaa
namespace Go.Proofs.Ytjokcfenncogkaa
open Go.RowKit Go.Shelf
set_option linter.unusedVariables false
set_option linter.unusedSimpArgs false

theorem ns_at13 (l : List Int) (i : Nat) (h : i < l.length) : (ns l)[i]? = some (.int .i64 (l.getD i 0)) := by simp [ns, List.getElem?_map, List.getElem?_eq_getElem h, List.getD]
theorem reads_ns13 {w : World} {B n : Nat} {b off : Nat} {l : List Int} (h : Reads w B 1 (some ⟨b, off, none⟩) n (ns l)) (i : Nat) (hi : i < n) : w.cell? ⟨b, off + i, none⟩ = some (.int .i64 (l.getD i 0)) ∧ b < B := by
  have hl : l.length = n := by have := h.1; rw [ns_len] at this; omega
  obtain ⟨b', off', e, hb, hc⟩ := h.2 (by omega)
  injection e with e
  injection e with e1 e2 _
  subst e1; subst e2
  exact ⟨hc _ _ (ns_at13 l i (by omega)), hb⟩
theorem int_ext13 {L L' : List Int} (hl : L.length = L'.length) (h : ∀ t, t < L.length → L.getD t 0 = L'.getD t 0) : L = L' := by
  refine List.ext_getElem hl fun t h1 h2 => ?_
  have := h t h1
  simpa [List.getD, List.getElem?_eq_getElem h1, List.getElem?_eq_getElem h2] using this
set_option maxHeartbeats 800000 in
theorem equal_i13 (A A' : Option Addr) (n n' c c' : Nat) (L L' : List Int) (w : World) (hr : Reads w w.heap.size 1 A n (ns L)) (hr' : Reads w w.heap.size 1 A' n' (ns L')) (hn : n ≤ 65536) (hn' : n' ≤ 65536) :
    Calls Try.prog 58 #[.slice A n c, .slice A' n' c'] w fun e w' => e = .returned (.bool (decide (L = L'))) ∧ Up w w' := by
  have hl : L.length = n := by have := hr.1; rw [ns_len] at this; omega
  have hl' : L'.length = n' := by have := hr'.1; rw [ns_len] at this; omega
  by_cases hne : n = n'
  · subst hne
    go_enter Try.func58, Try.ntmps58
    go_wp2
    go_loopw [13] (fun i wr => ∃ j : Nat, j ≤ n ∧ i = .int .i64 (j : Int) ∧ Up w wr ∧ ∀ t, t < j → L.getD t 0 = L'.getD t 0) (fun i _ => n - (intOf i).toNat)
    case atStart => exact ⟨0, by omega, rfl, Up.refl _, by omega⟩
    case round =>
      obtain ⟨j, hj, rfl, hup, heq⟩ := hrel
      by_cases hlt : j < n
      · obtain ⟨b, off, rfl, hb⟩ := hr.form (by omega)
        obtain ⟨b', off', rfl, hb'⟩ := hr'.form (by omega)
        obtain ⟨ca, _⟩ := reads_ns13 (hr.below hup) j hlt
        obtain ⟨ca', _⟩ := reads_ns13 (hr'.below hup) j hlt
        have q1 : (j : Int) < (n : Int) := by omega
        have HE := Lib.hid heq
        clear heq
        generalize hx : L.getD j 0 = p at *
        generalize hy : L'.getD j 0 = p' at *
        have HX := Lib.hid hx
        have HY := Lib.hid hy
        clear hx hy
        by_cases d1 : p = p'
        · subst d1
          go_wp2
          go_quiet (fail)
          go_wp2
          go_roundw
          case rel =>
            refine ⟨j + 1, by omega, by go_num, hup.drewN _, fun t ht => ?_⟩
            rcases Nat.lt_or_ge t j with h | h
            · exact HE.out t h
            · obtain rfl : t = j := by omega
              rw [HX.out, HY.out]
          case measure => simp [intOf]; omega
        · have b1 : (p != p') = true := by simpa using d1
          have HN := Lib.hid (show L ≠ L' from fun e => by have h1 := HX.out; have h2 := HY.out; rw [e] at h1; exact d1 (h1.symm.trans h2))
          clear d1
          go_wp2
          go_quiet (fail)
          go_wp2
          go_ret
          exact ⟨ret_bool (by simp [HN.out]), hup.drewN _⟩
      · obtain rfl : j = n := by omega
        have hall : L = L' := int_ext13 (by omega) (by intro t ht; exact heq t (by omega))
        have HE := Lib.hid hall
        clear hall heq
        go_wp2
        go_ret
        exact ⟨ret_bool (by simp [HE.out]), hup⟩
  · have hd : ((n : Int) == (n' : Int)) = false := by simp; omega
    have hd2 : ((n : Int) != (n' : Int)) = true := by simp; omega
    go_enter Try.func58, Try.ntmps58
    go_wp2
    go_ret
    refine ⟨ret_bool ?_, Up.refl _⟩
    have : L ≠ L' := fun e => hne (by rw [← hl, ← hl', e])
    simp [this]
theorem equal_own {A A' : Option Addr} {c c' B B' : Nat} {L : List Int} {w : World} (h : OwnI B w A L.length c L) (h' : OwnI B' w A' L.length c' L) (hn : L.length ≤ 65536) :
    Calls Try.prog 58 #[.slice A L.length c, .slice A' L.length c'] w fun e w' => e = .returned (.bool true) ∧ Up w w' := by
  refine (equal_i13 A A' L.length L.length c c' L L w h.reads h'.reads hn hn).mono ?_
  rintro e w' ⟨rfl, hu⟩
  exact ⟨by simp, hu⟩
/-- a slice of these numbers -/
def RMs (L : List Int) (v : Value) (W : World) : Prop := ∃ A n c, v = .slice A n c ∧ n = L.length ∧ True ∧ True ∧ Reads W W.heap.size 1 A n (ns L)
theorem rms_up (L : List Int) (v : Value) (W W' : World) (h : RMs L v W) (hu : Up W W') : RMs L v W' := by
  obtain ⟨A, n, c, rfl, hn, h1, h2, hr⟩ := h
  exact ⟨A, n, c, rfl, hn, h1, h2, hr.up hu⟩
theorem OwnI.told {B : Nat} {W : World} {A : Option Addr} {n c : Nat} {l : List Int} (h : OwnI B W A n c l) : RMs l (.slice A n c) W := ⟨A, n, c, rfl, h.len.symm, trivial, trivial, h.reads⟩
theorem eq_ms {A A' : Option Addr} {n n' c c' : Nat} {L : List Int} {w : World} (hr : Reads w w.heap.size 1 A n (ns L)) (hr' : Reads w w.heap.size 1 A' n' (ns L)) (hn : L.length ≤ 65536) :
    Calls Try.prog 58 #[.slice A n c, .slice A' n' c'] w fun e w' => e = .returned (.bool true) ∧ Up w w' := by
  have h1 := hr.1
  have h2 := hr'.1
  rw [ns_len] at h1 h2
  refine (equal_i13 A A' n n' c c' L L w hr hr' (by omega) (by omega)).mono ?_
  rintro e w' ⟨rfl, hu⟩
  exact ⟨by simp, hu⟩
theorem eq_rms {A A' : Option Addr} {n n' c c' : Nat} {L : List Int} {w : World} (hr : Reads w w.heap.size 1 A n (ns L)) (h' : RMs L (.slice A' n' c') w) (hn : L.length ≤ 65536) :
    Calls Try.prog 58 #[.slice A n c, .slice A' n' c'] w fun e w' => e = .returned (.bool true) ∧ Up w w' := by
  obtain ⟨B, m, d, he, _, _, _, hr'⟩ := h'
  injection he with e1 e2 e3
  subst e1; subst e2; subst e3
  exact eq_ms hr hr' hn
end Go.Proofs.Ytjokcfenncogkaa
namespace Go.Proofs.Ytjokcfenncogkaa
open Go.RowKit
set_option linter.unusedVariables false
set_option linter.unusedSimpArgs false

/-- a box that holds the bytes that have come; N are others' blocks -/
structure OutY (T : Nat → Prop) (w : World) (B ob : Nat) (N : Nat → Prop) (pre : List Int) (W : World) : Prop where
  up : Keep T w W
  ex : ∃ A n c, W.cell? ⟨ob, 0, none⟩ = some (.slice A n c) ∧ W.frozen? ⟨ob, 0, none⟩ = false ∧ OwnB B W A n c pre ∧ ∀ p, A = some p → ¬ N p.block
  no : ¬ N ob
  nw : ∀ k, N k → w.heap.size ≤ k ∨ T k
  bw : B ≤ W.heap.size
theorem OutY.own {T : Nat → Prop} {w : World} {B ob : Nat} : Own2 (OutY T w B ob) := by
  rintro N N' s W W' ⟨h1, ⟨A, n, c, h2, h3, h4, h5⟩, h6, h7, h8⟩ hk hn
  have zo := cell_lt h2
  refine ⟨h1.past2 hk h7, ⟨A, n, c, ((hk.at_ ob zo h6).1 0).trans h2, ((hk.at_ ob zo h6).2 0).trans h3, h4.held hk h5, fun p hp h => ?_⟩, fun h => ?_, fun k h => ?_, by have := hk.size; omega⟩
  · rcases hn _ h with h | h
    · exact h5 p hp h
    · have := (h4.at_ p hp).2; omega
  · rcases hn _ h with h | h
    · exact h6 h
    · have : ob < W.heap.size := zo; omega
  · rcases hn _ h with h | h
    · exact h7 k h
    · have := h1.size; left; omega
theorem OutY.fin {T : Nat → Prop} {w : World} {B ob : Nat} {N : Nat → Prop} {pre : List Int} {W : World} (h : OutY T w B ob N pre W) : ∃ A c, W.cell? ⟨ob, 0, none⟩ = some (.slice A pre.length c) ∧ OwnB B W A pre.length c pre := by
  obtain ⟨A, n, c, h2, h3, h4, h5⟩ := h.ex
  have := h4.len
  subst this
  exact ⟨A, c, h2, h4⟩
/-- what a round's append leaves -/
theorem OutY.push {T : Nat → Prop} {v : Value} {w : World} {B ob : Nat} {N : Nat → Prop} {pre : List Int} {x : Int} {W W' : World} {A A2 : Option Addr} {n c2 : Nat} {r : Option Nat} (hi : OutY T w B ob N pre W) (hz : ∀ k, N k → k < W.heap.size) (hA : ∀ p, A = some p → ¬ N p.block)
    (hown : OwnB B W' A2 (n + 1) c2 (pre ++ [x])) (hg : (W.alloc (.cells #[.int .u8 x] 5)).grownBy W' r) (hr' : ∀ k, r = some k → ∃ p, A = some p ∧ p.block = k) (hbl : Below B W W') (hob : ob < B) (hwB : w.heap.size ≤ B)
    (hp : ∀ p, A2 = some p → (∃ p', A = some p' ∧ p.block = p'.block) ∨ W.heap.size < p.block) (hc : W'.cell? ⟨ob, 0, none⟩ = some v) (hf : W'.frozen? ⟨ob, 0, none⟩ = false) (hwo : T ob ∨ w.heap.size ≤ ob) :
    Held N W (W'.setCell ⟨ob, 0, none⟩ (.slice A2 (n + 1) c2)) ∧ OutY T w B ob N (pre ++ [x]) (W'.setCell ⟨ob, 0, none⟩ (.slice A2 (n + 1) c2)) := by
  have hH : Held N W (W'.setCell ⟨ob, 0, none⟩ (.slice A2 (n + 1) c2)) := fun k hk => by
    have hkz := hz k hk
    have h1 : k ≠ ob := fun e => hi.no (e ▸ hk)
    rw [Below.heap_setCell W' ⟨ob, 0, none⟩ _ k h1]
    rw [hg.block k (by simp; omega) (fun e => by
      obtain ⟨p, hp1, hp2⟩ := hr' k e.symm
      exact hA p hp1 (hp2 ▸ hk))]
    exact Below.heap_alloc _ _ _ hkz
  refine ⟨hH, ⟨?_, ⟨A2, n + 1, c2, World.cell?_setCell_same (h := hc) .., by rw [World.frozen?_setCell]; exact hf, hown.far (by exact hob) _, fun p hp' h => ?_⟩, hi.no, hi.nw, by have := hbl.size; have := hi.bw; simp [World.setCell]; omega⟩⟩
  · exact (hi.up.far (hbl.mono hwB)).setCell hwo _
  · rcases hp p hp' with ⟨p', h1, h2⟩ | h1
    · exact hA p' h1 (h2 ▸ h)
    · have := hz _ h; omega

end Go.Proofs.Ytjokcfenncogkaa
namespace Go.Proofs.Ytjokcfenncogkaa
open Go.RowKit Go.Shelf
set_option linter.unusedVariables false
set_option linter.unusedSimpArgs false

section
variable {P : Program}
theorem run_appY {W : World} (i0 : TypeInfo) (hi : P.info? 5 = some i0) (hz0 : i0.zero = some (.int .u8 0)) (hz1 : i0.size = 1) (hz2 : i0.bytes = 1) (hP : P.underlying 33 = some (.slice 5)) (ty : TypeId)
    (y : Int) (B : Nat) (A Ax : Option Addr) (n c cx : Nat) (l : List Int) (hown : OwnB B W A n c l) (hr : Reads W W.heap.size 1 Ax 1 (bs [y])) (hn : n ≤ 65535) (hB : B ≤ W.heap.size) :
    ∃ A' c' w', (Builtin.append_ #[33, 33] ty #[.slice A n c, .slice Ax 1 cx]).run P W = .ok (.slice A' (n + 1) c') w' ∧
      OwnB B w' A' (n + 1) c' (l ++ [y]) ∧ W.grownBy w' (Value.slice A n c).ownBlock ∧ Below B W w' ∧ (∀ p, A' = some p → (∃ p', A = some p' ∧ p.block = p'.block) ∨ W.heap.size ≤ p.block) := by
  obtain ⟨b, off, rfl, hb, hc⟩ := hr.2 (by omega)
  obtain ⟨v', w', hrun, h2, h3, _, h5⟩ := run_append_own_at (P := P) (w := W) B 33 ty 5 i0 _ 1 1 hP hi hz0 hz1 hz2 rfl (by decide) _ n (bs l) hown.own ⟨b, off, none⟩ 1 cx (bs [y]) rfl (fun j u hu => by have h9 := hc j u hu; have e9 : (⟨b, off, none⟩ : Addr).add j = ⟨b, off + j, none⟩ := (by simp [Addr.add]); rw [e9]; exact h9) (by simp [bs, Value.oneCell']) (by simp [maxLen]; omega) (by omega) hB
  obtain ⟨A', c', rfl, hle, hmx⟩ := own_form h2
  refine ⟨A', c', w', hrun, ⟨by rw [bs_snoc13]; exact h2, by simp [hown.len], hle, hmx⟩, h3, ?_, ?_⟩
  · exact (Below.refl B W).grown h3 hB fun k hk => (own_bd hown.own k hk).1
  · intro p hp
    subst hp
    rcases h5 with h5 | h5
    · left
      cases A with
      | none => simp [Value.ownBlock] at h5
      | some p' => simp [Value.ownBlock] at h5; exact ⟨p', rfl, h5⟩
    · right
      simp [Value.ownBlock] at h5
      omega
theorem wpListIn_appY {lb nn : Nat} {ops : Array Oper} {rest : List Oper} {o : Oper} {a : Act} {Q : Exit → Act → World → Prop} {w : World} (i0 : TypeInfo) (hi : P.info? 5 = some i0) (hz0 : i0.zero = some (.int .u8 0)) (hz1 : i0.size = 1) (hz2 : i0.bytes = 1) (hP : P.underlying 33 = some (.slice 5))
    (hgd : o.guard = none) (s x : Operand) (ho : o.op = .call { callee := .builtin .append, args := #[s, x], argTypes := #[33, 33] })
    (y : Int) (B : Nat) (A Ax : Option Addr) (n c cx : Nat) (l : List Int) (hs : a.eval s = .slice A n c) (hx : a.eval x = .slice Ax 1 cx)
    (hown : OwnB B w A n c l) (hr : Reads w w.heap.size 1 Ax 1 (bs [y])) (hn : n ≤ 65535) (hB : B ≤ w.heap.size)
    (h : ∀ A' c' w', OwnB B w' A' (n + 1) c' (l ++ [y]) → w.grownBy w' (Value.slice A n c).ownBlock → Below B w w' → (∀ p, A' = some p → (∃ p', A = some p' ∧ p.block = p'.block) ∨ w.heap.size ≤ p.block) → wpListIn (Fence.wide.inRound lb) nn P ops Q rest (a.put o.dst (.slice A' (n + 1) c')) w') :
    wpListIn (Fence.wide.inRound lb) nn P ops Q (o :: rest) a w := by
  have hw : Region.wanted o (yielded ops a.tmps) = true := by simp [Region.wanted, hgd]
  unfold wpListIn
  rw [if_pos hw]
  obtain ⟨A', c', w', hr', h2, h3, h4, h5⟩ := run_appY (P := P) i0 hi hz0 hz1 hz2 hP o.type y B A Ax n c cx l hown hr hn hB
  refine oper_in (fun cc => by rw [ho]; simp) ?_
  unfold Oper.wp execOp
  simp only [ho, resolve, invoke, builtin, Sem.run_bind, Sem.run_pure, Result.andThen_ok, List.map_toArray, List.map_cons, List.map_nil, hs, hx, hr']
  exact h A' c' w' h2 h3 h4 h5
end
theorem OutY.pushY {T : Nat → Prop} {v : Value} {w : World} {B ob : Nat} {N : Nat → Prop} {pre : List Int} {x : Int} {W W' : World} {A A2 : Option Addr} {n c2 : Nat} {r : Option Nat} (hi : OutY T w B ob N pre W) (hz : ∀ k, N k → k < W.heap.size) (hA : ∀ p, A = some p → ¬ N p.block)
    (hown : OwnB B W' A2 (n + 1) c2 (pre ++ [x])) (hg : W.grownBy W' r) (hr' : ∀ k, r = some k → ∃ p, A = some p ∧ p.block = k) (hbl : Below B W W') (hob : ob < B) (hwB : w.heap.size ≤ B)
    (hp : ∀ p, A2 = some p → (∃ p', A = some p' ∧ p.block = p'.block) ∨ W.heap.size ≤ p.block) (hc : W'.cell? ⟨ob, 0, none⟩ = some v) (hf : W'.frozen? ⟨ob, 0, none⟩ = false) (hwo : T ob ∨ w.heap.size ≤ ob) :
    Held N W (W'.setCell ⟨ob, 0, none⟩ (.slice A2 (n + 1) c2)) ∧ OutY T w B ob N (pre ++ [x]) (W'.setCell ⟨ob, 0, none⟩ (.slice A2 (n + 1) c2)) := by
  have hH : Held N W (W'.setCell ⟨ob, 0, none⟩ (.slice A2 (n + 1) c2)) := fun k hk => by
    have hkz := hz k hk
    have h1 : k ≠ ob := fun e => hi.no (e ▸ hk)
    rw [Below.heap_setCell W' ⟨ob, 0, none⟩ _ k h1]
    exact hg.block k hkz (fun e => by
      obtain ⟨p, hp1, hp2⟩ := hr' k e.symm
      exact hA p hp1 (hp2 ▸ hk))
  refine ⟨hH, ⟨?_, ⟨A2, n + 1, c2, World.cell?_setCell_same (h := hc) .., by rw [World.frozen?_setCell]; exact hf, hown.far (by exact hob) _, fun p hp' h => ?_⟩, hi.no, hi.nw, by have := hbl.size; have := hi.bw; simp [World.setCell]; omega⟩⟩
  · exact (hi.up.far (hbl.mono hwB)).setCell hwo _
  · rcases hp p hp' with ⟨p', h1, h2⟩ | h1
    · exact hA p' h1 (h2 ▸ h)
    · have := hz _ h; omega
end Go.Proofs.Ytjokcfenncogkaa
namespace Go.Proofs.Ytjokcfenncogkaa
open Go.RowKit
set_option linter.unusedVariables false
set_option linter.unusedSimpArgs false

/-- the codes of a field's places -/
def Spc.text (X : Spc) (a : Int) : List Int := (X.places a).map fun n => (X.at_ n).ch
theorem places_mem {X : Spc} (ok : X.Ok) {a x : Int} (h : x ∈ X.places a) : ∃ k : Nat, x = k ∧ k < X.L.length := by
  have hp := Spc.pos ok
  have hl := ok.len
  unfold Spc.places at h
  split at h
  · unfold stepsL at h
    rw [List.mem_map] at h
    obtain ⟨i, _, rfl⟩ := h
    obtain ⟨h1, h2⟩ := ok.wrap (a + 1 + i)
    exact ⟨X.wrap (a + 1 + i), h1, h2⟩
  · cases h
set_option maxRecDepth 100000 in
set_option maxHeartbeats 3200000 in
theorem rtext_is {q h : Nat} {X : Spc} {w : World} (a : Int) (hr : RAt w q h X) (ok : X.Ok) :
    Calls Try.prog 79 #[.pointer (some ⟨q, 0, none⟩), .int .i64 a] w fun e w' => ∃ A c, e = .returned (.slice A (X.text a).length c) ∧ OwnB w.heap.size w' A (X.text a).length c (X.text a) ∧ Up w w' := by
  obtain ⟨i0, hi, hz0, hz1, hz2⟩ := info_parts info_u8
  have HP := Lib.hid (rplaces_is a hr ok)
  have HPN := Lib.hid (places_len13 ok a)
  have HMEM := Lib.hid (fun (j : Nat) (x : Int) (hx : (X.places a)[j]? = some x) => places_mem ok (List.mem_of_getElem? hx))
  have HAT := Lib.hid (fun k (hk : k < X.L.length) => Spc.at_nat ok hk)
  have HCE := Lib.hid (fun k c hk => hr.cells.2.2 k c hk)
  have HTX := Lib.hid (show X.text a = (X.places a).map (fun n => (X.at_ n).ch) from rfl)
  obtain ⟨cap, q1, q2, k4⟩ := hr.h4
  have zp := hr.lt
  have zg := hr.cells.2.1
  have hsm := ok.small
  have hcp : (cap : Int) ≤ 9223372036854775807 := by simp [maxLen] at q2; omega
  obtain ⟨m, hm⟩ : ∃ m, X.L.length = m := ⟨_, rfl⟩
  obtain ⟨P, hP⟩ : ∃ P, X.places a = P := ⟨_, rfl⟩
  rw [hm] at q1 k4 hsm HPN HMEM HAT
  rw [hP] at HP HPN HMEM HTX
  obtain ⟨nl, hnl⟩ : ∃ nl, P.length = nl := ⟨_, rfl⟩
  have HNL := Lib.hid hnl
  have hpn := HPN.out
  rw [hnl] at hpn
  clear hm hP hr ok q2 hnl HPN
  go_enter Try.func79, Try.ntmps79
  go_wp2_with fail
  refine HP.out.mono ?_
  rintro e w1 ⟨A0, c0, rfl, hown0, hu1⟩
  have z1 := hu1.size
  have HU1 := Lib.hid hu1
  have HRD := Lib.hid hown0.reads
  have hc0 : (c0 : Int) ≤ 9223372036854775807 := by have := hown0.mx; simp [maxLen] at this; omega
  have hle0 := hown0.le
  have k5 := ((hu1.at_ q zp).1 4).trans k4
  have zp1 : q < w1.heap.size := by omega
  have zg1 : h < w1.heap.size := by omega
  rw [HNL.out] at HRD hle0 ⊢
  clear hown0 hu1 k4
  go_wp2_with fail
  go_loopw [5, 12] (fun v i wr => ∃ (j : Nat) (A : Option Addr) (c : Nat), j ≤ nl ∧ v = .slice A j c ∧ i = .int .i64 (j : Int) ∧ OwnB w1.heap.size wr A j c ((P.take j).map (fun n => (X.at_ n).ch)) ∧ Up w1 wr) (fun _ i _ => nl - (intOf i).toNat)
  case atStart => exact ⟨0, none, 0, by omega, rfl, rfl, OwnB.nil _ _, Up.refl _⟩
  case round =>
    obtain ⟨j, A, c, hj, rfl, rfl, hown, huj⟩ := hrel
    have HUJ := Lib.hid huj
    have HOW := Lib.hid hown
    have zj := huj.size
    by_cases hlt : j < nl
    · obtain ⟨x, hx⟩ : ∃ x, P[j]? = some x := ⟨_, List.getElem?_eq_getElem (by have := HNL.out; omega)⟩
      obtain ⟨k, rfl, hk⟩ := HMEM.out j x hx
      have hrd := HRD.out.below huj
      obtain ⟨b, off, rfl, hb⟩ := hrd.form (by omega)
      obtain ⟨hbl, u, hu, hcl⟩ := hrd.at_ (j := j) (by omega)
      have hux : u = .int .i64 (k : Int) := by
        unfold ns at hu
        rw [List.getElem?_map, hx] at hu
        injection hu with hu
        exact hu.symm
      subst hux
      have zb : b < wr.heap.size := by omega
      obtain ⟨d, hd⟩ : ∃ d, X.at_ (k : Int) = d := ⟨_, rfl⟩
      have hat := HAT.out k hk
      rw [hd] at hat
      have x0 := ((huj.at_ h zg1).1 _).trans (((HU1.out.at_ h zg).1 _).trans (HCE.out k d hat).h0)
      have k6 := ((huj.at_ q zp1).1 4).trans k5
      have zq : q < wr.heap.size := by omega
      have zh : h < wr.heap.size := by omega
      have HSJ := Lib.hid (show (P.take (j + 1)).map (fun n => (X.at_ n).ch) = (P.take j).map (fun n => (X.at_ n).ch) ++ [d.ch] by
        obtain ⟨h1, h2⟩ := List.getElem?_eq_some_iff.1 hx
        rw [List.take_succ_eq_append_getElem h1, h2, List.map_append]
        simp [hd])
      have hjm : (j : Int) < (nl : Int) := by omega
      have hkm : (k : Int) < (m : Int) := by omega
      generalize d.ch = ch at *
      clear hx hk hu hrd hbl hown huj hat hd hb
      go_wp2_with (at_builtin; refine wpList_pushB i0 hi hz0 hz1 hz2 Try.underlying33 rfl (.tmp 16) (.tmp 25) rfl _ ch rfl _ (by simp) w1.heap.size A j c ((P.take j).map (fun n => (X.at_ n).ch)) rfl rfl (HOW.out.up (by (repeat (first | with_reducible exact Up.refl _ | with_reducible refine Up.alloc ?_ _ | with_reducible refine Up.drew ?_ | with_reducible refine Up.drewN ?_ _ | with_reducible refine Up.setCell ?_ (by (try simp) <;> omega) _ | with_reducible assumption | with_reducible refine Up.trans ?_ (by assumption))))) (by omega) (by (try simp) <;> omega) ?_; intro A2 c2 w5 hown2 hg2 hbl2 _; have HO2 := Lib.hid hown2; have HB2 := Lib.hid hbl2; clear hown2 hg2 hbl2)
      go_roundw
      case rel => exact ⟨j + 1, A2, c2, by omega, rfl, by go_num, by rw [HSJ.out]; exact HO2.out, Up.past HUJ.out HB2.out⟩
      case measure => simp [intOf]; omega
    · obtain rfl : j = nl := by omega
      have HA := Lib.hid (show (P.take j).map (fun n => (X.at_ n).ch) = X.text a by rw [HTX.out, List.take_of_length_le (by have := HNL.out; omega)])
      rw [HA.out] at HOW
      clear hown
      go_wp2_with fail
      go_ret
      have hn := HOW.out.len
      subst hn
      exact ⟨A, c, rfl, HOW.out.low (by omega), HU1.out.trans HUJ.out⟩
end Go.Proofs.Ytjokcfenncogkaa
namespace Go.Proofs.Ytjokcfenncogkaa
open Go.RowKit Go.Shelf
set_option linter.unusedVariables false
set_option linter.unusedSimpArgs false
attribute [local go_sem] Oper.semAt_some

set_option maxRecDepth 100000 in
set_option maxHeartbeats 6400000 in
theorem ftext_is {p g : Nat} {X : Spc} {w : World} (a : Int) (hs : SAt w p g X) (ok : X.Ok) :
    Calls Try.prog 78 #[.pointer (some ⟨p, 0, none⟩), .int .i64 a] w fun e w' => ∃ A c, e = .returned (.slice A (X.text a).length c) ∧ OwnB w.heap.size w' A (X.text a).length c (X.text a) ∧ Up w w' := by
  obtain ⟨i0, hi, hz0, hz1, hz2⟩ := info_parts info_u8
  have HS := Lib.hid hs
  have HO := Lib.hid ok
  have hpl := places_len ok a
  have hsm := ok.small
  have fC := fldC0
  have HTX := Lib.hid (show X.text a = (X.places a).map (fun n => (X.at_ n).ch) from rfl)
  clear hs ok
  refine (callsIn_wide (n := 9)).1 ?_
  refine callsIn_of_wp_marks Try.func78 rfl trivial ?_ rfl
  simp only [Try.ntmps78, List.size_toArray, List.length_cons, List.length_nil, Nat.reduceAdd, Nat.reduceSub, Array.replicate_succ, Array.replicate_zero, List.push_toArray, List.append_toArray, List.nil_append, List.cons_append]
  refine wpIn_wide.2 ?_
  go_wp2_with fail
  refine (places_val _ _ _).mono ?_
  rintro e w3 ⟨b, b2, rfl, hb, hb2, hz, hcb, hcb2, hfb2, hu3⟩
  simp at hb hb2 hz
  obtain ⟨k1, f1⟩ := hu3.at_ w.heap.size (by (try simp) <;> omega)
  obtain ⟨k2, f2⟩ := hu3.at_ (w.heap.size + 1) (by (try simp) <;> omega)
  have uw : Up w w3 := by (repeat (first | with_reducible exact Up.refl _ | with_reducible refine Up.alloc ?_ _ | with_reducible refine Up.drew ?_ | with_reducible refine Up.drewN ?_ _ | with_reducible refine Up.setCell ?_ (by (try simp) <;> omega) _ | with_reducible assumption | with_reducible refine Up.trans ?_ (by assumption)))
  have c1 : w3.cell? ⟨w.heap.size, 0, none⟩ = some (.pointer (some ⟨p, 0, none⟩)) := (k1 0).trans (by simp [go_sem])
  have c2 : w3.cell? ⟨w.heap.size + 1, 0, none⟩ = some (.slice none 0 0) := (k2 0).trans (by simp [go_sem])
  have g2 : w3.frozen? ⟨w.heap.size + 1, 0, none⟩ = false := (f2 0).trans (by simp [go_sem])
  have HU := Lib.hid uw
  have HB := Lib.hid (show b = w.heap.size + 1 + 1 ∧ b2 = w.heap.size + 1 + 1 + 1 ∧ w3.heap.size = w.heap.size + 1 + 1 + 2 from ⟨hb, hb2, hz⟩)
  have HC := Lib.hid (show _ ∧ _ ∧ _ from ⟨c1, c2, g2⟩)
  clear k1 f1 k2 f2 hu3 uw hb hb2 hz c1 c2 g2
  go_wp2_with fail
  obtain ⟨hb, hb2, hz⟩ := HB.out
  obtain ⟨c1, c2, g2⟩ := HC.out
  refine wpIn_wide.1 (range_n (n := 9) (gf := 130) (lb := #[.pointer (some ⟨b, 0, none⟩), .pointer (some ⟨b2, 0, none⟩)]) rfl enters_places (places_it HO.out (p := p) (b := b) (b2 := b2) (a := a)) (fun _ => rfl)
    (fun k => k = b2) (fun k hk => by omega) (fun k hk => hk) (fun W hu => ⟨((hu.at_ b2 (by omega)).1 0).trans hcb2, ((hu.at_ b2 (by omega)).2 0).trans hfb2⟩)
    (fun N pre W => InP w p b N W ∧ InP w p w.heap.size N W ∧ OutY (fun _ => False) w w3.heap.size (w.heap.size + 1) N (pre.map (fun n => (X.at_ n).ch)) W) (fun _ _ _ _ => False)
    (fun N N' s A A' h hk hn => ⟨InP.own (β := Unit) N N' () A A' h.1 hk hn, InP.own (β := Unit) N N' () A A' h.2.1 hk hn, OutY.own N N' _ A A' h.2.2 hk hn⟩) (fun _ _ _ _ _ _ h _ _ => h) (fun N pre W h => h.1.see HS.out HO.out)
    ⟨⟨HU.out, hcb, by omega, by omega⟩, ⟨HU.out, c1, by omega, by omega⟩, ⟨Keep.of_up HU.out, ⟨none, 0, 0, c2, g2, OwnB.nil _ _, fun p hp => by cases hp⟩, by omega, fun k h => .inl (by omega), Nat.le_refl _⟩⟩
    (fun pre x a' N W' => pre ++ [x] <+: X.places a ∧ a' = { tmps := #[.pointer (some ⟨p, 0, none⟩), .int .i64 a, .pointer (some ⟨w.heap.size, 0, none⟩), undef, .slice none 0 0, .pointer (some ⟨w.heap.size + 1, 0, none⟩), .int .i64 x, .pointer (some ⟨p, 0, none⟩), .int .i64 a, .func (.func 130) #[] #[.pointer (some ⟨b, 0, none⟩), .pointer (some ⟨b2, 0, none⟩)], .int .i64 x, undef, undef, undef, undef, undef, undef, undef, undef], defers := [] })
    (fun _ _ _ _ _ _ _ _ h _ _ => h) ?assign ?body ?done (fun _ _ _ _ _ _ _ _ _ h _ => h.elim))
  case assign =>
    rintro l N pre x W K hz hI hG hK
    have HI := Lib.hid hI
    have HG := Lib.hid hG
    clear hI hG
    gi_wp2
    exact hK _ _ (Held.refl _ _) HI.out ⟨HG.out, by simp⟩
  case body =>
    rintro l N pre x a' W hl hr hz ⟨hI1, hI2, hI⟩ ⟨hG, rfl⟩
    obtain ⟨k, rfl, hk⟩ := places_mem HO.out (hG.subset (show x ∈ pre ++ [x] by simp))
    obtain ⟨d, hd⟩ : ∃ d, X.at_ (k : Int) = d := ⟨_, rfl⟩
    have HAT := Lib.hid (fun W' (hu : Up W W') => sat_op (k : Int) (HS.out.up (hI1.up.trans hu)) HO.out hd)
    have HI1 := Lib.hid hI1
    have HI2 := Lib.hid hI2
    have HI := Lib.hid hI
    have HD := Lib.hid (show d.ch = (X.at_ (k : Int)).ch by rw [hd])
    have hlen : pre.length + 1 ≤ (X.places a).length := by have := hG.length_le; simpa using this
    obtain ⟨A, n, c0, q1, q2, q3, q5⟩ := hI.ex
    have hn := q3.len
    rw [List.length_map] at hn
    subst hn
    have zo := cell_lt q1
    have t1 := hI2.hb
    have zt := cell_lt t1
    simp only at zo zt
    have hbw := hI.bw
    have H3 := Lib.hid q3
    have HZ := Lib.hid hz
    have H5 := Lib.hid q5
    have HNE := Lib.hid (show ∀ k, k < w3.heap.size → (Value.slice A pre.length c0).ownBlock ≠ some k from fun k hk e => by have := own_bd q3.own _ e; omega)
    clear q3 hz q5 hI hI1 hI2 hG hr hl hd hk
    generalize d.ch = dch at *
    refine wpIn_block ?_
    refine wpIn_region_mixT 6 (NS := [(16, RSl [dch])]) [16] rfl (by kernel_rfl) (by kernel_rfl) (by simp) (by intro p hp; simp only [List.mem_cons, List.mem_nil_iff, or_false] at hp; rcases hp with rfl; all_goals (first | exact rsl_up _ | exact rptr_up _ | exact rms_up _ | exact spanAt_up _ _ _ _ _ | exact rcs_up _ | exact rfb_up _ _)) ?_
    simp only [List.take_succ_cons, List.take_zero, List.drop_succ_cons, List.drop_zero]
    repeat (first
      | (refine mix_skip rfl rfl ?_; simp only [Act.put, List.setIfInBounds_toArray, List.set_cons_succ, List.set_cons_zero])
      | (refine mix_q rfl rfl rfl (by kernel_rfl) rfl rfl rfl ?_
         apply Exists.intro
         refine ⟨fun Wm => ?_, ?_⟩
         · simp only [fin]
           repeat (rintro (vm : Value) hvm; first | (obtain ⟨gm, om, rfl, hgm, hcm⟩ := hvm) | (obtain ⟨gm, om, cm, rfl, h2m, hxm, hgm, hcm, hdm⟩ := rsl_two hvm) | (obtain ⟨Am, nm, cm, rfl, hnm, hlm, hmm, hrm⟩ := hvm; (try simp only [List.length_cons, List.length_nil, Nat.zero_add, Nat.reduceAdd] at hnm); subst hnm) | (have hvs := hvm; obtain ⟨bm1, bm2, bm3, rfl, hbl, hbz, hbc⟩ := hvm))
           intro K hK
           go_wp2_with ((go_at_call 27; (with_reducible refine (HAT.out _ (up_upOf _ _)).mono ?_); rintro e w' ⟨rfl, hux⟩))
           refine hK _ _ ?_ ?_ ?_
           · (repeat (first | with_reducible exact Up.refl _ | with_reducible refine Up.alloc ?_ _ | with_reducible refine Up.drew ?_ | with_reducible refine Up.drewN ?_ _ | with_reducible refine Up.setCell ?_ (by (try simp) <;> omega) _ | with_reducible assumption | with_reducible refine Up.trans ?_ (by assumption)))
           · rfl
           · exact tmps_at rfl
         simp only [Act.put, List.setIfInBounds_toArray, List.set_cons_succ, List.set_cons_zero])
      | (refine mix_n rfl rfl rfl (by kernel_rfl) rfl rfl rfl ?_ ?_
         · intro Wm
           simp only [fin]
           repeat (rintro (vm : Value) hvm; first | (obtain ⟨gm, om, rfl, hgm, hcm⟩ := hvm) | (obtain ⟨gm, om, cm, rfl, h2m, hxm, hgm, hcm, hdm⟩ := rsl_two hvm) | (obtain ⟨Am, nm, cm, rfl, hnm, hlm, hmm, hrm⟩ := hvm; (try simp only [List.length_cons, List.length_nil, Nat.zero_add, Nat.reduceAdd] at hnm); subst hnm) | (have hvs := hvm; obtain ⟨bm1, bm2, bm3, rfl, hbl, hbz, hbc⟩ := hvm))
           intro K hK
           go_wp2_with ((go_at_call 27; (with_reducible refine (HAT.out _ (up_upOf _ _)).mono ?_); rintro e w' ⟨rfl, hux⟩))
           apply hK
           · (repeat (first | with_reducible exact Up.refl _ | with_reducible refine Up.alloc ?_ _ | with_reducible refine Up.drew ?_ | with_reducible refine Up.drewN ?_ _ | with_reducible refine Up.setCell ?_ (by (try simp) <;> omega) _ | with_reducible assumption | with_reducible refine Up.trans ?_ (by assumption)))
           · rfl
           · exact tmps_at rfl
           · first | exact rsl_lit _ _ _ _ _ _ rfl rfl (by simp [maxLen]) rfl | exact ⟨_, _, rfl, hgm, hcm⟩ | exact ⟨_, _, rfl, hgm, hdm⟩ | assumption
         simp only [Act.put, List.setIfInBounds_toArray, List.set_cons_succ, List.set_cons_zero]))
    refine mix_nil ?_
    intro w9 hb_w9
    simp only [fin]
    intro vm_w9_0 hvm_w9_0
    simp only [Act.put, List.setIfInBounds_toArray, List.set_cons_succ, List.set_cons_zero]
    obtain ⟨Ax, nx, cx, rfl, hnx, hx1, hx2, hrx⟩ := hvm_w9_0
    simp only [List.length_cons, List.length_nil, Nat.zero_add, Nat.reduceAdd] at hnx
    subst hnx
    have b9 := (hb_w9.at_ _ zo)
    have q19 := (b9.1 0).trans q1
    have q29 := (b9.2 0).trans q2
    have z9 := hb_w9.size
    have zo9 : w.heap.size + 1 < w9.heap.size := by omega
    have HB9 := Lib.hid hb_w9
    have HRX := Lib.hid hrx
    clear b9 hb_w9 q1 q2 hrx
    gi_wp2_with (gi_at_builtin; refine wpListIn_appY i0 hi hz0 hz1 hz2 Try.underlying33 rfl (.tmp 11) (.tmp 16) rfl dch w3.heap.size A Ax pre.length c0 cx (pre.map (fun n => (X.at_ n).ch)) rfl rfl (H3.out.up HB9.out) HRX.out (by omega) (by omega) ?_; intro A1 c1 w1 hown1 hg1 hbl1 hp1; obtain ⟨gc, gz⟩ := grown_at hg1 (w.heap.size + 1) zo9 (HNE.out _ (by omega)); have gc1 := (gc 0).trans q19; have gz1 := (gz 0).trans q29; have HO2 := Lib.hid hown1; have HG1 := Lib.hid hg1; have HB1 := Lib.hid hbl1; have HP1 := Lib.hid hp1; have hzw1 := hbl1.size; clear hown1 hg1 hbl1 hp1 gc gz)
    have hf := OutY.pushY (T := fun _ => False) (r := (Value.slice A pre.length c0).ownBlock) (OutY.own.up HI.out HB9.out) (fun k hk => by have := HZ.out k hk; omega) H5.out HO2.out HG1.out (fun k hk => by
      cases A with
      | none => simp [Value.ownBlock] at hk
      | some p => simp [Value.ownBlock] at hk; exact ⟨p, rfl, hk⟩) HB1.out (by omega) (by omega) HP1.out gc1 gz1 (.inr (by omega))
    have hcx : ∀ x, x < w3.heap.size → x ≠ w.heap.size + 1 → W.cell? ⟨x, 0, none⟩ = some (.pointer (some ⟨p, 0, none⟩)) → (w1.setCell ⟨w.heap.size + 1, 0, none⟩ (.slice A1 (pre.length + 1) c1)).cell? ⟨x, 0, none⟩ = some (.pointer (some ⟨p, 0, none⟩)) := fun x h1 h2 h3 =>
      (World.cell?_setCell_other _ _ _ _ (fun e => h2 (by injection e with e; exact e.symm))).trans ((World.cell?_of_block (a := ⟨x, 0, none⟩) (HB1.out.block x h1)).trans (((HB9.out.at_ x (cell_lt h3)).1 0).trans h3))
    have hup := hf.2.up.upto (fun i hi => hi.elim)
    refine ⟨(Held.of_up HB9.out HZ.out).trans hf.1, ⟨hup, hcx b (by omega) (by omega) HI1.out.hb, HI1.out.nb, HI1.out.nw⟩, ⟨hup, hcx w.heap.size (by omega) (by omega) HI2.out.hb, HI2.out.nb, HI2.out.nw⟩, ?_⟩
    rw [List.map_append, List.map_cons, List.map_nil, ← HD.out]
    exact hf.2
  case done =>
    rintro Dd N xs W hD hND hN0 hS ⟨hI1, hI2, hI⟩ hK
    obtain ⟨A, c, h2, h4⟩ := hI.fin
    have HI := Lib.hid hI
    have HI1 := Lib.hid hI1
    have HK := Lib.hid hK
    have HND := Lib.hid hND
    have zo := cell_lt h2
    have hX : xs.map (fun n => (X.at_ n).ch) = X.text a := by rw [HTX.out, hS]
    rw [hX] at h2
    have HX := Lib.hid hX
    clear hI hI1 hI2 hK hND h4 hX hS
    go_wp2
    refine ⟨by simp, .inl ⟨_, _, rfl, run_takeDeferred HK.out, ?_⟩⟩
    have hfin := OutY.own N N _ W (W.putObj Dd (.deferred none)) HI.out (keep_put _ HND.out) (fun k hk => .inl hk)
    obtain ⟨A', c', h2', h4'⟩ := hfin.fin
    rw [HX.out] at h2' h4'
    have e : A' = A ∧ c' = c := by
      have := (keep_put (N := fun k => k = Dd) (W := W) (l := Dd) (.deferred none) rfl).at_ (w.heap.size + 1) zo (fun e => HI.out.no (e ▸ HND.out))
      have h := (this.1 0).symm.trans h2'
      rw [h2] at h
      injection h with h
      injection h with h1 h2 h3
      exact ⟨h1.symm, h3.symm⟩
    obtain ⟨rfl, rfl⟩ := e
    exact ⟨_, results_tmp rfl _ _ _, A', c', rfl, h4'.low (by omega), hfin.up.upto (fun i hi => hi.elim)⟩
end Go.Proofs.Ytjokcfenncogkaa
namespace Go.Proofs.Ytjokcfenncogkaa
open Go.RowKit Go.Shelf
set_option linter.unusedVariables false
set_option linter.unusedSimpArgs false
attribute [local go_sem] Oper.semAt_some

/-- how many places of a field count: none, if it is protected -/
def Spc.opn (X : Spc) (a : Int) : Nat := if fP (X.at_ a).fa then 0 else (X.places a).length
def opnTo (X : Spc) (l : List Int) : Nat := (l.map X.opn).sum
theorem opnTo_snoc (X : Spc) (l : List Int) (a : Int) : opnTo X (l ++ [a]) = opnTo X l + X.opn a := by simp [opnTo]
theorem opnTo_le {X : Spc} (ok : X.Ok) (l : List Int) : opnTo X l ≤ l.length * 3564 := by
  induction l with
  | nil => simp [opnTo]
  | cons a l ih =>
    have h : opnTo X (a :: l) = X.opn a + opnTo X l := by simp [opnTo]
    have h2 : X.opn a ≤ 3564 := by
      have h3 := places_len ok a
      have h4 := ok.small
      unfold Spc.opn
      split <;> omega
    rw [h, List.length_cons, Nat.add_mul]
    omega
set_option maxRecDepth 100000 in
set_option maxHeartbeats 6400000 in
theorem funprot_is {p g : Nat} {X : Spc} {w : World} (hs : SAt w p g X) (ok : X.Ok) :
    Calls Try.prog 80 #[.pointer (some ⟨p, 0, none⟩)] w fun e w' => e = .returned (.int .i64 (opnTo X X.attrs : Int)) ∧ Up w w' := by
  have HS := Lib.hid hs
  have HO := Lib.hid ok
  have HM := Lib.hid (show X.L.length = X.L.length from rfl)
  have HLE := Lib.hid (opnTo_le ok)
  have HSN := Lib.hid (opnTo_snoc X)
  have hla : (those (isAt X.L) X.L.length).length ≤ 3564 := Nat.le_trans (those_len _ _) ok.small
  have HLN := Lib.hid (fun W (h : SAt W p g X) a => flength_is a h ok)
  have HAE := Lib.hid (show X.attrs = those (isAt X.L) X.L.length from rfl)
  have HOP := Lib.hid (fun a : Int => show X.opn a = if fP (X.at_ a).fa then 0 else (X.places a).length from rfl)
  clear hs ok
  refine (callsIn_wide (n := 9)).1 ?_
  refine callsIn_of_wp_marks Try.func80 rfl trivial ?_ rfl
  simp only [Try.ntmps80, List.size_toArray, List.length_cons, List.length_nil, Nat.reduceAdd, Nat.reduceSub, Array.replicate_succ, Array.replicate_zero, List.push_toArray, List.append_toArray, List.nil_append, List.cons_append]
  refine wpIn_wide.2 ?_
  go_wp2_with fail
  refine (fields_val13 _ _).mono ?_
  rintro e w3 ⟨b, rfl, hb, hz, hcb, hfb, hu3⟩
  simp at hb hz
  have hc : ∀ k, k < w.heap.size + 2 → (∀ o, w3.cell? ⟨k, o, none⟩ = _) ∧ (∀ o, w3.frozen? ⟨k, o, none⟩ = _) := fun k hk => hu3.at_ k (by (try simp) <;> omega)
  have B0 : BoxAt (fun _ => False) w3 w.heap.size (.pointer (some ⟨p, 0, none⟩)) := ⟨((hc _ (by omega)).1 0).trans (by simp [go_sem]), ((hc _ (by omega)).2 0).trans (by simp [go_sem]), fun h => h⟩
  have B1 : BoxAt (fun _ => False) w3 (w.heap.size + 1) (.int .i64 ((opnTo X [] : Nat) : Int)) := ⟨((hc _ (by omega)).1 0).trans (by simp [go_sem, opnTo]), ((hc _ (by omega)).2 0).trans (by simp [go_sem]), fun h => h⟩
  have B2 : BoxAt (fun _ => False) w3 b (.pointer (some ⟨p, 0, none⟩)) := ⟨hcb, hfb, fun h => h⟩
  have HU := Lib.hid (show Up w w3 by (repeat (first | with_reducible exact Up.refl _ | with_reducible refine Up.alloc ?_ _ | with_reducible refine Up.drew ?_ | with_reducible refine Up.drewN ?_ _ | with_reducible refine Up.setCell ?_ (by (try simp) <;> omega) _ | with_reducible assumption | with_reducible refine Up.trans ?_ (by assumption))))
  have HBB := Lib.hid (show _ ∧ _ ∧ _ from ⟨B0, B1, B2⟩)
  have HNE := Lib.hid (show b ≠ w.heap.size + 1 from by omega)
  clear hc hu3 hb hz hcb hfb B0 B1 B2
  go_wp2_with fail
  refine wpIn_wide.1 (range_n (n := 9) (gf := 129) (lb := #[.pointer (some ⟨b, 0, none⟩)]) rfl enters_fields13 (fields_it (p := p) (m := X.L.length) (b := b) (f := isAt X.L) (Q := fun Y => Y.L = X.L) (fun Y hY k _ => by rw [hY])) (fun _ => rfl)
    (fun _ => False) (fun k hk => hk.elim) (fun k hk => hk.elim) (fun _ _ => trivial)
    (fun N pre W => UpN w N W ∧ BoxAt N W w.heap.size (.pointer (some ⟨p, 0, none⟩)) ∧ BoxAt N W (w.heap.size + 1) (.int .i64 (opnTo X (pre.map (fun y : Int × Int => y.1)) : Int)) ∧ BoxAt N W b (.pointer (some ⟨p, 0, none⟩)))
    (fun _ _ _ _ => False)
    (fun N N' s A A' h hk hn => ⟨h.1.keep hk hn, h.2.1.keep hk hn, h.2.2.1.keep hk hn, h.2.2.2.keep hk hn⟩) (fun _ _ _ _ _ _ h _ _ => h)
    (fun N pre W h => ⟨g, X, HS.out.up h.1.up, HO.out, rfl, rfl, h.2.2.2.c⟩) ⟨⟨HU.out, fun k h => h.elim⟩, HBB.out.1, HBB.out.2.1, HBB.out.2.2⟩
    (fun pre x a' N W' => pre.map (fun y : Int × Int => y.1) ++ [x.1] <+: those (isAt X.L) X.L.length ∧ x.2 = (X.at_ x.1).fa ∧ ∃ bx, a' = { tmps := #[.pointer (some ⟨p, 0, none⟩), .pointer (some ⟨w.heap.size, 0, none⟩), .int .i64 0, .pointer (some ⟨w.heap.size + 1, 0, none⟩), .int .i64 x.1, .pointer (some ⟨bx, 0, none⟩), .pointer (some ⟨p, 0, none⟩), .func (.func 129) #[] #[.pointer (some ⟨b, 0, none⟩)], .int .i64 x.1, .agg #[.bool (fP x.2), .bool (fN x.2), .int .i64 (fD x.2), .bool (fM x.2)], undef, undef, undef, undef, undef, undef, undef, undef, undef], defers := [] } ∧
      W'.cell? ⟨bx, 0, none⟩ = some (.bool (fP x.2)) ∧ ¬ N bx)
    ?ownax ?assign ?body ?done (fun _ _ _ _ _ _ _ _ _ h _ => h.elim))
  case ownax =>
    rintro pre x a' N N' _ A A' ⟨h1, h2, bx, h4, h5, h6⟩ hk hn
    have zx := cell_lt h5
    exact ⟨h1, h2, bx, h4, ((hk.at_ bx zx h6).1 0).trans h5, fun h => by
      rcases hn _ h with h | h
      · exact h6 h
      · have : bx < A.heap.size := zx; omega⟩
  case assign =>
    rintro ll N pre ⟨x, fa⟩ A K hz hI hG hK
    have hfa := hG.2 g X (HS.out.up hI.1.up) HO.out rfl
    have HI := Lib.hid hI
    have HN := Lib.hid hz
    have HG := Lib.hid hG.1
    have HFA := Lib.hid hfa.symm
    clear hI hz hG hfa
    simp only [encF]
    gi_wp2
    refine hK _ _ (Held.of_up (show Up A _ by (repeat (first | with_reducible exact Up.refl _ | with_reducible refine Up.alloc ?_ _ | with_reducible refine Up.drew ?_ | with_reducible refine Up.drewN ?_ _ | with_reducible refine Up.setCell ?_ (by (try simp) <;> omega) _ | with_reducible assumption | with_reducible refine Up.trans ?_ (by assumption)))) HN.out) ⟨HI.out.1.up2 (by (repeat (first | with_reducible exact Up.refl _ | with_reducible refine Up.alloc ?_ _ | with_reducible refine Up.drew ?_ | with_reducible refine Up.drewN ?_ _ | with_reducible refine Up.setCell ?_ (by (try simp) <;> omega) _ | with_reducible assumption | with_reducible refine Up.trans ?_ (by assumption)))), HI.out.2.1.up (by (repeat (first | with_reducible exact Up.refl _ | with_reducible refine Up.alloc ?_ _ | with_reducible refine Up.drew ?_ | with_reducible refine Up.drewN ?_ _ | with_reducible refine Up.setCell ?_ (by (try simp) <;> omega) _ | with_reducible assumption | with_reducible refine Up.trans ?_ (by assumption)))), HI.out.2.2.1.up (by (repeat (first | with_reducible exact Up.refl _ | with_reducible refine Up.alloc ?_ _ | with_reducible refine Up.drew ?_ | with_reducible refine Up.drewN ?_ _ | with_reducible refine Up.setCell ?_ (by (try simp) <;> omega) _ | with_reducible assumption | with_reducible refine Up.trans ?_ (by assumption)))), HI.out.2.2.2.up (by (repeat (first | with_reducible exact Up.refl _ | with_reducible refine Up.alloc ?_ _ | with_reducible refine Up.drew ?_ | with_reducible refine Up.drewN ?_ _ | with_reducible refine Up.setCell ?_ (by (try simp) <;> omega) _ | with_reducible assumption | with_reducible refine Up.trans ?_ (by assumption))))⟩ ⟨HG.out, HFA.out, A.heap.size, rfl, by simp [go_sem], fun h => by have := HN.out _ h; omega⟩
  case body =>
    rintro ll N pre ⟨x, fa⟩ a' A hl hr hz hI ⟨hG, hfa, bx, rfl, hbx, hbn⟩
    simp only at hG hfa hbx
    have hlen : pre.length + 1 ≤ 3564 := by have := hG.length_le; simp at this; omega
    have hle := HLE.out (pre.map (fun y : Int × Int => y.1))
    have HLJ := Lib.hid (fun W' (hu : Up A W') => HLN.out W' ((HS.out.up hI.1.up).up hu) x)
    have zx := cell_lt hbx
    simp only at zx
    have c0 := hI.2.1.c
    have c1 := hI.2.2.1.c
    have f1 := hI.2.2.1.f
    have z0 := hI.2.1.lt
    have z1 := hI.2.2.1.lt
    have HI := Lib.hid hI
    have HN := Lib.hid hz
    rw [List.length_map] at hle
    have HOX := Lib.hid (HOP.out x)
    rw [← hfa] at HOX
    have HSX := Lib.hid (HSN.out (pre.map (fun y : Int × Int => y.1)) x)
    have hpl := places_len HO.out x
    have hsm := HO.out.small
    obtain ⟨S, hS⟩ : ∃ S, opnTo X (pre.map (fun y : Int × Int => y.1)) = S := ⟨_, rfl⟩
    obtain ⟨np, hnp⟩ : ∃ np, (X.places x).length = np := ⟨_, rfl⟩
    rw [hS] at hle c1 HSX
    rw [hnp] at HOX HLJ hpl
    have HSE := Lib.hid hS
    have hle2 : S ≤ 13000000 := by omega
    clear hI hz hr hl hG hfa hle hS hnp
    generalize fN fa = v1 at *
    generalize fD fa = v2 at *
    generalize fM fa = v3 at *
    generalize fP fa = b0 at *
    cases b0
    · gi_wp2
      refine wpIn_region_mixT 5 (NS := []) [] rfl (by kernel_rfl) (by kernel_rfl) (by simp) (by simp) ?_
      simp only [List.take_succ_cons, List.take_zero, List.drop_succ_cons, List.drop_zero]
      repeat (first
        | (refine mix_skip rfl rfl ?_; simp only [Act.put, List.setIfInBounds_toArray, List.set_cons_succ, List.set_cons_zero])
        | (refine mix_q rfl rfl rfl (by kernel_rfl) rfl rfl rfl ?_
           apply Exists.intro
           refine ⟨fun Wm => ?_, ?_⟩
           · simp only [fin]
             skip
             intro K hK
             go_wp2_with ((go_at_call 76; (with_reducible refine (HLJ.out _ (up_upOf _ _)).mono ?_); rintro e w' ⟨rfl, hux⟩))
             refine hK _ _ ?_ ?_ ?_
             · (repeat (first | with_reducible exact Up.refl _ | with_reducible refine Up.alloc ?_ _ | with_reducible refine Up.drew ?_ | with_reducible refine Up.drewN ?_ _ | with_reducible refine Up.setCell ?_ (by (try simp) <;> omega) _ | with_reducible assumption | with_reducible refine Up.trans ?_ (by assumption)))
             · rfl
             · exact tmps_at rfl
           simp only [Act.put, List.setIfInBounds_toArray, List.set_cons_succ, List.set_cons_zero]))
      refine mix_nil ?_
      intro w9 hb_w9
      simp only [fin]
      have c19 := ((hb_w9.at_ _ z1).1 0).trans c1
      have f19 := ((hb_w9.at_ _ z1).2 0).trans f1
      have z19 : w.heap.size + 1 < w9.heap.size := by have := hb_w9.size; omega
      have HB9 := Lib.hid hb_w9
      clear hb_w9 c0 c1 f1
      gi_wp2
      obtain ⟨h1, h2, h3, h4⟩ := HI.out
      have h3' := h3.up HB9.out
      refine ⟨(Held.of_up HB9.out HN.out).trans (h3'.held _), (h1.up2 HB9.out).set (by omega) _, (h2.up HB9.out).other _ (by omega), ?_, (h4.up HB9.out).other _ (fun e => HNE.out e.symm)⟩
      rw [List.map_append, List.map_cons, List.map_nil, HSX.out, HOX.out]
      exact h3'.set _
    · gi_wp2
      refine ⟨Held.refl _ _, HI.out.1, HI.out.2.1, ?_, HI.out.2.2.2⟩
      rw [List.map_append, List.map_cons, List.map_nil, HSX.out, HOX.out]
      simpa [HSE.out] using HI.out.2.2.1
  case done =>
    rintro Dd N xs W hD hND hN0 hS ⟨h1, h2, h3, h4⟩ hK
    rw [hS] at h3
    have HB := Lib.hid h3
    have HU1 := Lib.hid h1
    have HK := Lib.hid hK
    have HND := Lib.hid hND
    have c1 := h3.c
    have z1 := h3.lt
    clear h1 h2 h3 h4 hK hND hS
    go_wp2
    refine ⟨by simp, .inl ⟨_, _, rfl, run_takeDeferred HK.out, ?_⟩⟩
    exact ⟨_, results_tmp rfl _ _ _, rfl, HU1.out.put _ HND.out⟩
end Go.Proofs.Ytjokcfenncogkaa
namespace Go.Proofs.Ytjokcfenncogkaa
open Go.RowKit Go.Shelf
set_option linter.unusedVariables false
set_option linter.unusedSimpArgs false
attribute [local go_sem] Oper.semAt_some

theorem pre_take13 {L : List Int} {a : List Int} (h : a <+: L) : L.take a.length = a := (List.prefix_iff_eq_take.1 h).symm
set_option maxRecDepth 100000 in
set_option maxHeartbeats 6400000 in
theorem lplaces_is {p g most : Nat} {X : Spc} {a : Int} {w : World} {K : List Int} (hs : SAt w p g X) (ok : X.Ok) (h1 : 0 < most) (h2 : most ≤ 1000) (hKK : (X.places a).take most = K) :
    Calls Try.prog 81 #[.pointer (some ⟨p, 0, none⟩), .int .i64 a, .int .i64 (most : Int)] w fun e w' => ∃ A c, e = .returned (.slice A K.length c) ∧ OwnI w.heap.size w' A K.length c K ∧ Up w w' := by
  have HKK := Lib.hid hKK
  clear hKK
  obtain ⟨i0, hi, hz0, hz1, hz2⟩ := info_parts info_i64
  have HS := Lib.hid hs
  have HO := Lib.hid ok
  have hsm := ok.small
  have hpl := places_len ok a
  clear hs ok
  refine (callsIn_wide (n := 9)).1 ?_
  refine callsIn_of_wp_marks Try.func81 rfl trivial ?_ rfl
  simp only [Try.ntmps81, List.size_toArray, List.length_cons, List.length_nil, Nat.reduceAdd, Nat.reduceSub, Array.replicate_succ, Array.replicate_zero, List.push_toArray, List.append_toArray, List.nil_append, List.cons_append]
  refine wpIn_wide.2 ?_
  go_wp2_with fail
  refine (places_val _ _ _).mono ?_
  rintro e w3 ⟨b, b2, rfl, hb, hb2, hz, hcb, hcb2, hfb2, hu3⟩
  simp at hb hb2 hz
  obtain ⟨k1, f1⟩ := hu3.at_ w.heap.size (by (try simp) <;> omega)
  obtain ⟨k2, f2⟩ := hu3.at_ (w.heap.size + 1) (by (try simp) <;> omega)
  have uw : Up w w3 := by (repeat (first | with_reducible exact Up.refl _ | with_reducible refine Up.alloc ?_ _ | with_reducible refine Up.drew ?_ | with_reducible refine Up.drewN ?_ _ | with_reducible refine Up.setCell ?_ (by (try simp) <;> omega) _ | with_reducible assumption | with_reducible refine Up.trans ?_ (by assumption)))
  have c1 : w3.cell? ⟨w.heap.size, 0, none⟩ = some (.int .i64 (most : Int)) := (k1 0).trans (by simp [go_sem])
  have g1 : w3.frozen? ⟨w.heap.size, 0, none⟩ = false := (f1 0).trans (by simp [go_sem])
  have c2 : w3.cell? ⟨w.heap.size + 1, 0, none⟩ = some (.slice none 0 0) := (k2 0).trans (by simp [go_sem])
  have g2 : w3.frozen? ⟨w.heap.size + 1, 0, none⟩ = false := (f2 0).trans (by simp [go_sem])
  have HU := Lib.hid uw
  have HBB := Lib.hid (show b = w.heap.size + 1 + 1 ∧ b2 = w.heap.size + 1 + 1 + 1 ∧ w3.heap.size = w.heap.size + 1 + 1 + 2 from ⟨hb, hb2, hz⟩)
  have HC := Lib.hid (show _ ∧ _ ∧ _ ∧ _ ∧ _ ∧ _ ∧ _ from ⟨c1, g1, c2, g2, hcb, hcb2, hfb2⟩)
  clear k1 f1 k2 f2 hu3 uw hb hb2 hz c1 g1 c2 g2 hcb hcb2 hfb2
  go_wp2_with fail
  refine wpIn_wide.1 (range_n (n := 9) (gf := 130) (lb := #[.pointer (some ⟨b, 0, none⟩), .pointer (some ⟨b2, 0, none⟩)]) rfl enters_places (places_it HO.out (p := p) (b := b) (b2 := b2) (a := a)) (fun _ => rfl)
    (fun k => k = b2) (fun k hk => by have := HBB.out; omega) (fun k hk => hk) (fun W hu => by have h9 := HBB.out; exact ⟨((hu.at_ b2 (by omega)).1 0).trans HC.out.2.2.2.2.2.1, ((hu.at_ b2 (by omega)).2 0).trans HC.out.2.2.2.2.2.2⟩)
    (fun N pre W => InP w p b N W ∧ BoxAt N W w.heap.size (.int .i64 (most : Int)) ∧ OutB (fun _ => False) w w3.heap.size (w.heap.size + 1) N pre W ∧ pre.length < most)
    (fun c N xs W => match c with
      | .exit id => id = 0 ∧ OutB (fun _ => False) w w3.heap.size (w.heap.size + 1) N xs W ∧ xs <+: X.places a ∧ xs.length = most
      | _ => False)
    (fun N N' s A A' h hk hn => ⟨InP.own (β := Unit) N N' () A A' h.1 hk hn, h.2.1.keep hk hn, OutB.own N N' _ A A' h.2.2.1 hk hn, h.2.2.2⟩) ?ownx (fun N pre W h => h.1.see HS.out HO.out) ?start
    (fun pre x a' N W' => pre ++ [x] <+: X.places a ∧ a' = { tmps := #[.pointer (some ⟨p, 0, none⟩), .int .i64 a, .int .i64 (most : Int), undef, undef, .pointer (some ⟨w.heap.size, 0, none⟩), .slice none 0 0, .pointer (some ⟨w.heap.size + 1, 0, none⟩), .int .i64 x, .pointer (some ⟨p, 0, none⟩), .int .i64 a, .func (.func 130) #[] #[.pointer (some ⟨b, 0, none⟩), .pointer (some ⟨b2, 0, none⟩)], .int .i64 x, undef, undef, undef, undef, undef, undef, undef, undef, undef], defers := [] })
    (fun _ _ _ _ _ _ _ _ h _ _ => h) ?assign ?body ?done ?stop)
  case ownx =>
    intro c N N' xs A A' h hk hn
    cases c
    case exit id => exact ⟨h.1, OutB.own N N' _ A A' h.2.1 hk hn, h.2.2⟩
    all_goals exact h.elim
  case start =>
    have h9 := HBB.out
    obtain ⟨c1, g1, c2, g2, hcb, hcb2, hfb2⟩ := HC.out
    exact ⟨⟨HU.out, hcb, by omega, by omega⟩, ⟨c1, g1, by omega⟩, ⟨Keep.of_up HU.out, ⟨none, 0, 0, c2, g2, OwnI.nil _ _, fun p hp => by cases hp⟩, by omega, fun k h => .inl (by omega), Nat.le_refl _⟩, h1⟩
  case assign =>
    rintro l N pre x W K hz hI hG hK
    have HI := Lib.hid hI
    have HG := Lib.hid hG
    clear hI hG
    gi_wp2
    exact hK _ _ (Held.refl _ _) HI.out ⟨HG.out, rfl⟩
  case body =>
    rintro l N pre x a' W hl hr hz hI ⟨hT1, rfl⟩
    have HI := Lib.hid hI
    obtain ⟨A, n, c0, q1, q2, q3, q5⟩ := hI.2.2.1.ex
    have hlen := hI.2.2.2
    have hn := q3.len
    subst hn
    have zo := cell_lt q1
    have hbw := hI.2.2.1.bw
    have m1 := hI.2.1.c
    have m2 := hI.2.1.f
    have zm := cell_lt m1
    have H3 := Lib.hid q3
    have HZ := Lib.hid hz
    have H5 := Lib.hid q5
    have HTK := Lib.hid hT1
    have hz3 : w.heap.size + 1 < w3.heap.size := by have := HBB.out; omega
    have HNE := Lib.hid (show ∀ k, k < w3.heap.size → (Value.slice A pre.length c0).ownBlock ≠ some k from fun k hk e => by have := own_bd q3.own _ e; omega)
    clear q3 hz q5 hI hT1 hr hl
    have hn5 : pre.length ≤ 65535 := by omega
    have zo2 : w.heap.size + 1 < W.heap.size := zo
    have zm2 : w.heap.size < W.heap.size := zm
    have HAL := Lib.hid (show ∀ o v, o < W.heap.size → (W.alloc v).cell? ⟨o, 0, none⟩ = W.cell? ⟨o, 0, none⟩ from fun o v ho => World.cell?_alloc_lt W v ⟨o, 0, none⟩ ho)
    have HAF := Lib.hid (show ∀ o v, o < W.heap.size → (W.alloc v).frozen? ⟨o, 0, none⟩ = W.frozen? ⟨o, 0, none⟩ from fun o v ho => (((Up.refl W).alloc v).at_ o ho).2 0)
    rcases Nat.lt_or_ge (pre.length + 1) most with hlast | hlast
    · have e1 : (((pre.length : Nat) : Int) + 1 == (most : Int)) = false := by simp; omega
      gi_wp2_with (gi_at_builtin; refine wpListIn_push i0 hi hz0 hz1 hz2 Try.underlying50 rfl (.tmp 13) (.tmp 15) rfl W x rfl W.heap.size rfl w3.heap.size A pre.length c0 pre rfl rfl H3.out hn5 hbw ?_; intro A1 c1 w1 hown1 hg1 hbl1 hp1; obtain ⟨gc, gz⟩ := grown_at hg1 (w.heap.size + 1) (by simp; omega) (HNE.out _ (by omega)); obtain ⟨gm, gmf⟩ := grown_at hg1 w.heap.size (by simp; omega) (HNE.out _ (by omega)); have gc1 := (gc 0).trans ((HAL.out _ _ zo2).trans q1); have gz1 := (gz 0).trans ((HAF.out _ _ zo2).trans q2); have gm1 := (gm 0).trans ((HAL.out _ _ zm2).trans m1); have gm2 := (gmf 0).trans ((HAF.out _ _ zm2).trans m2); have HO2 := Lib.hid hown1; have HG1 := Lib.hid hg1; have HB1 := Lib.hid hbl1; have HP1 := Lib.hid hp1; have hzw1 := hbl1.size; clear hown1 hg1 hbl1 hp1 gc gz gm gmf)
      have hf := OutB.push (T := fun _ => False) (r := (Value.slice A pre.length c0).ownBlock) HI.out.2.2.1 HZ.out H5.out HO2.out HG1.out (fun k hk => by
        cases A with
        | none => simp [Value.ownBlock] at hk
        | some p => simp [Value.ownBlock] at hk; exact ⟨p, rfl, hk⟩) HB1.out (by omega) (by omega) HP1.out gc1 gz1 (.inr (by omega))
      have hcx : (w1.setCell ⟨w.heap.size + 1, 0, none⟩ (.slice A1 (pre.length + 1) c1)).cell? ⟨b, 0, none⟩ = some (.pointer (some ⟨p, 0, none⟩)) :=
        (World.cell?_setCell_other _ _ _ _ (fun e => by injection e with e; have := HBB.out; omega)).trans ((World.cell?_of_block (a := ⟨b, 0, none⟩) (HB1.out.block b (by have := HBB.out; omega))).trans HI.out.1.hb)
      have hmx : BoxAt N (w1.setCell ⟨w.heap.size + 1, 0, none⟩ (.slice A1 (pre.length + 1) c1)) w.heap.size (.int .i64 (most : Int)) := BoxAt.other ⟨gm1, gm2, HI.out.2.1.n⟩ _ (by omega)
      have hup := hf.2.up.upto (fun i hi => hi.elim)
      exact ⟨hf.1, ⟨hup, hcx, HI.out.1.nb, HI.out.1.nw⟩, hmx, hf.2, by simp; omega⟩
    · have e1 : (((pre.length : Nat) : Int) + 1 == (most : Int)) = true := by simp; omega
      gi_wp2_with (gi_at_builtin; refine wpListIn_push i0 hi hz0 hz1 hz2 Try.underlying50 rfl (.tmp 13) (.tmp 15) rfl W x rfl W.heap.size rfl w3.heap.size A pre.length c0 pre rfl rfl H3.out hn5 hbw ?_; intro A1 c1 w1 hown1 hg1 hbl1 hp1; obtain ⟨gc, gz⟩ := grown_at hg1 (w.heap.size + 1) (by simp; omega) (HNE.out _ (by omega)); obtain ⟨gm, gmf⟩ := grown_at hg1 w.heap.size (by simp; omega) (HNE.out _ (by omega)); have gc1 := (gc 0).trans ((HAL.out _ _ zo2).trans q1); have gz1 := (gz 0).trans ((HAF.out _ _ zo2).trans q2); have gm1 := (gm 0).trans ((HAL.out _ _ zm2).trans m1); have gm2 := (gmf 0).trans ((HAF.out _ _ zm2).trans m2); have HO2 := Lib.hid hown1; have HG1 := Lib.hid hg1; have HB1 := Lib.hid hbl1; have HP1 := Lib.hid hp1; have hzw1 := hbl1.size; clear hown1 hg1 hbl1 hp1 gc gz gm gmf)
      have hf := OutB.push (T := fun _ => False) (r := (Value.slice A pre.length c0).ownBlock) HI.out.2.2.1 HZ.out H5.out HO2.out HG1.out (fun k hk => by
        cases A with
        | none => simp [Value.ownBlock] at hk
        | some p => simp [Value.ownBlock] at hk; exact ⟨p, rfl, hk⟩) HB1.out (by omega) (by omega) HP1.out gc1 gz1 (.inr (by omega))
      have hcx : (w1.setCell ⟨w.heap.size + 1, 0, none⟩ (.slice A1 (pre.length + 1) c1)).cell? ⟨b, 0, none⟩ = some (.pointer (some ⟨p, 0, none⟩)) :=
        (World.cell?_setCell_other _ _ _ _ (fun e => by injection e with e; have := HBB.out; omega)).trans ((World.cell?_of_block (a := ⟨b, 0, none⟩) (HB1.out.block b (by have := HBB.out; omega))).trans HI.out.1.hb)
      have hmx : BoxAt N (w1.setCell ⟨w.heap.size + 1, 0, none⟩ (.slice A1 (pre.length + 1) c1)) w.heap.size (.int .i64 (most : Int)) := BoxAt.other ⟨gm1, gm2, HI.out.2.1.n⟩ _ (by omega)
      have hup := hf.2.up.upto (fun i hi => hi.elim)
      exact ⟨hf.1, rfl, hf.2, HTK.out, by simp; omega⟩
  case done =>
    rintro Dd N xs W hD hND hN0 hS ⟨hI1, hI2, hI, hp⟩ hK
    obtain ⟨A, c, h2, h4⟩ := hI.fin
    have HI := Lib.hid hI
    have HK := Lib.hid hK
    have HND := Lib.hid hND
    have zo := cell_lt h2
    have hX : xs = K := by
      have e : X.places a = xs := hS.symm
      rw [← HKK.out, e, List.take_of_length_le (by omega)]
    rw [hX] at h2
    have HX := Lib.hid hX
    clear hI hI1 hI2 hK hND h4 hX hS
    go_wp2
    refine ⟨by simp, .inl ⟨_, _, rfl, run_takeDeferred HK.out, ?_⟩⟩
    have hfin := OutB.own N N _ W (W.putObj Dd (.deferred none)) HI.out (keep_put _ HND.out) (fun k hk => .inl hk)
    obtain ⟨A', c', h2', h4'⟩ := hfin.fin
    rw [HX.out] at h2' h4'
    have e : A' = A ∧ c' = c := by
      have := (keep_put (N := fun k => k = Dd) (W := W) (l := Dd) (.deferred none) rfl).at_ (w.heap.size + 1) zo (fun e => HI.out.no (e ▸ HND.out))
      have h := (this.1 0).symm.trans h2'
      rw [h2] at h
      injection h with h
      injection h with h1 h2 h3
      exact ⟨h1.symm, h3.symm⟩
    obtain ⟨rfl, rfl⟩ := e
    exact ⟨_, results_tmp rfl _ _ _, A', c', rfl, h4'.low (by have := HU.out.size; omega), hfin.up.upto (fun i hi => hi.elim)⟩
  case stop =>
    rintro Dd N c pre W hD hND hN0 hSp hIx hK
    cases c
    case exit id =>
      obtain ⟨rfl, hI, hT, hlen⟩ := hIx
      refine wpIn_wide.2 ?_
      obtain ⟨A, c, h2, h4⟩ := hI.fin
      have HI := Lib.hid hI
      have HK := Lib.hid hK
      have HND := Lib.hid hND
      have zo := cell_lt h2
      have hX : pre = K := by rw [← HKK.out, ← hlen]; exact (pre_take13 hT).symm
      rw [hX] at h2
      have HX := Lib.hid hX
      clear hI hK hND h4 hX hT hlen
      go_wp2
      refine ⟨by simp, .inl ⟨_, _, rfl, run_takeDeferred HK.out, ?_⟩⟩
      have hfin := OutB.own N N _ W (W.putObj Dd (.deferred none)) HI.out (keep_put _ HND.out) (fun k hk => .inl hk)
      obtain ⟨A', c', h2', h4'⟩ := hfin.fin
      rw [HX.out] at h2' h4'
      have e : A' = A ∧ c' = c := by
        have := (keep_put (N := fun k => k = Dd) (W := W) (l := Dd) (.deferred none) rfl).at_ (w.heap.size + 1) zo (fun e => HI.out.no (e ▸ HND.out))
        have h := (this.1 0).symm.trans h2'
        rw [h2] at h
        injection h with h
        injection h with h1 h2 h3
        exact ⟨h1.symm, h3.symm⟩
      obtain ⟨rfl, rfl⟩ := e
      exact ⟨_, results_tmp rfl _ _ _, A', c', rfl, h4'.low (by have := HU.out.size; omega), hfin.up.upto (fun i hi => hi.elim)⟩
    all_goals exact hIx.elim
end Go.Proofs.Ytjokcfenncogkaa
