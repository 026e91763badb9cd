/-
  How an argument's reading is opened: structs of one-cell fields by value, slices of integers, slices of structs. No condition.
-/
import Derived.Test.YtfknakcjhlonoaaCore
import Derived.ProofKit
import Derived.OpenShut
import Derived.ShutString
import Derived.ChangeOld
import Derived.Lib.SmallJoins
import Derived.Deep.Slices
import Derived.Deep.Fields
import Derived.ChangeSame
namespace Go.Proofs.Ytfknakcjhlonoaa
open Go.ChangeShapes Go.WideShapes Go.ChangeAt Go.RowKit Go.Joins Go.Deep
set_option linter.unusedVariables false

theorem own : ownKnob Try.prog.godebug = none := by kernel_rfl
theorem laidOut : laidOutB Try.prog = true := by kernel_rfl

section
variable {H : Type} {enc : TypeId × Value → H} {P : Program} {w : World} {base : Nat} {spare : Nat → Bool} {held : Bool}

/-- each field of a struct of one-cell fields, as it lies among the cells -/
theorem fields_one {t : TypeId} {fs : Array Field} {fuel : Nat} {cs : List Value} {x : DataW H × List MemPlace} (hs : P.underlying t = some (.struct fs)) (hone : oneCellFields P fs = true) (hlen : cs.length = fs.size)
    (hf : DataW.trod enc P w base spare held fuel t cs = some x) : ∃ n, ∀ (j : Nat) (f : Field), fs[j]? = some f → ∃ c y, cs[j]? = some c ∧ DataW.trod enc P w base spare held n f.type [c] = some y := by
  obtain ⟨ys, n, _, _, _, hyl, hg⟩ := DataW.trod_struct hs hf
  refine ⟨n, fun j f hj => ?_⟩
  obtain ⟨ho, hk⟩ := hone_of hone j f hj
  have hjl : j < fs.size := (Array.getElem?_eq_some_iff.1 hj).1
  have h1 := hg j f hj
  rw [ho, hk] at h1
  have hone' : (cs.drop j).take 1 = [cs[j]'(by omega)] := by
    rw [List.drop_eq_getElem_cons (by omega)]
    rfl
  rw [hone'] at h1
  have hys : ys[j]? = some (ys[j]'(by omega)) := List.getElem?_eq_getElem (by omega)
  exact ⟨_, _, List.getElem?_eq_getElem (by omega), h1.trans hys⟩

/-- a struct of one-cell fields that came in by value -/
theorem open_fields {r : Reach} {b0 : Nat} {t : TypeId} {fs : Array Field} {v : Value} {d : DataW H} {p : List MemPlace} (hs : P.underlying t = some (.struct fs)) (hone : oneCellFields P fs = true) (hC : P.cellsOf t = fs.size)
    (hv : Value.okWide P w r b0 t v) (h : DataW.Trod enc P w base spare held t v d p) :
    ∃ (cs : List Value) (n : Nat), v = .agg cs.toArray ∧ cs.length = fs.size ∧ ∀ (j : Nat) (f : Field), fs[j]? = some f → ∃ c y, cs[j]? = some c ∧ DataW.trod enc P w base spare held n f.type [c] = some y := by
  obtain ⟨cs, rfl, hsz⟩ := okWide_struct hs hv
  obtain ⟨fuel, hf⟩ := h
  have hl : cs.toList.length = fs.size := by rw [Array.length_toList, hsz, hC]
  obtain ⟨n, hn⟩ := fields_one (cs := cs.toList) hs hone hl (by simpa [Value.cells] using hf)
  exact ⟨cs.toList, n, by simp, hl, hn⟩

theorem cell_lt {w : World} {a : Addr} {v : Value} (h : w.cell? a = some v) : a.block < w.heap.size := by
  rcases Nat.lt_or_ge a.block w.heap.size with hlt | hge
  · exact hlt
  · simp [World.cell?, Array.getElem?_eq_none hge] at h
end

theorem list_of {α : Type} {Q : Nat → α → Prop} : ∀ {n : Nat}, (∀ i, i < n → ∃ x, Q i x) → ∃ l : List α, l.length = n ∧ ∀ i x, l[i]? = some x → Q i x
  | 0, _ => ⟨[], rfl, fun i x h => by simp at h⟩
  | n + 1, h => by
    obtain ⟨l, hl, hq⟩ := list_of (n := n) fun i hi => h i (by omega)
    obtain ⟨x, hx⟩ := h n (by omega)
    refine ⟨l ++ [x], by simp [hl], fun i y hy => ?_⟩
    rcases Nat.lt_trichotomy i n with hlt | heq | hgt
    · rw [List.getElem?_append_left (by omega)] at hy
      exact hq i y hy
    · subst heq
      rw [List.getElem?_append_right (by omega)] at hy
      simp [hl] at hy
      subst hy
      exact hx
    · rw [List.getElem?_append_right (by omega), List.getElem?_eq_none (by simp; omega)] at hy
      cases hy

theorem flatMap_at {α : Type} {k : Nat} {enc : α → List Value} (hk : ∀ x, (enc x).length = k) (h0 : 0 < k) : ∀ (l : List α) (j : Nat) (u : Value), (l.flatMap enc)[j]? = some u → ∃ x, l[j / k]? = some x ∧ (enc x)[j % k]? = some u
  | [], j, u, h => by simp at h
  | x :: l, j, u, h => by
    rw [List.flatMap_cons] at h
    rcases Nat.lt_or_ge j k with hlt | hge
    · rw [List.getElem?_append_left (by rw [hk]; exact hlt)] at h
      exact ⟨x, by rw [Nat.div_eq_of_lt hlt]; rfl, by rw [Nat.mod_eq_of_lt hlt]; exact h⟩
    · rw [List.getElem?_append_right (by rw [hk]; exact hge), hk] at h
      obtain ⟨y, h1, h2⟩ := flatMap_at hk h0 l (j - k) u h
      refine ⟨y, ?_, ?_⟩
      · rw [Nat.div_eq_sub_div h0 hge]
        exact h1
      · rw [Nat.mod_eq_sub_mod hge]
        exact h2
theorem flatMap_len {α : Type} {k : Nat} {enc : α → List Value} (hk : ∀ x, (enc x).length = k) : ∀ (l : List α), (l.flatMap enc).length = l.length * k
  | [] => by simp
  | x :: l => by rw [List.flatMap_cons, List.length_append, hk, flatMap_len hk l, List.length_cons, Nat.succ_mul, Nat.add_comm]

/-- rows of one shape, each of its own datum, read as a list of data -/
theorem reads_rows {α : Type} {w : World} {k n : Nat} {enc : α → List Value} {Q : α → Prop} (hk : ∀ x, (enc x).length = k) (h0 : 0 < k) (a : Addr)
    (h : ∀ i, i < n → ∃ x, Q x ∧ ∀ j u, (enc x)[j]? = some u → w.cell? (a.add (i * k + j)) = some u) :
    ∃ L : List α, L.length = n ∧ (∀ x ∈ L, Q x) ∧ Reads w w.heap.size k (some a) n (L.flatMap enc) := by
  obtain ⟨L, hl, hq⟩ := list_of h
  refine ⟨L, hl, fun x hx => ?_, by rw [flatMap_len hk, hl], fun hn => ?_⟩
  · obtain ⟨i, hi⟩ := List.getElem?_of_mem hx
    exact (hq i x hi).1
  · obtain ⟨x, hx⟩ : ∃ x, L[0]? = some x := ⟨L[0]'(by omega), List.getElem?_eq_getElem (by omega)⟩
    have hu : (enc x)[0]? = some ((enc x)[0]'(by rw [hk]; exact h0)) := List.getElem?_eq_getElem _
    have hc := (hq 0 x hx).2 0 _ hu
    have hsp : a.spot = none := by
      have : w.cell? (a.add 0) = w.cell? a := by simp [Addr.add]
      simp only [Nat.zero_mul, Nat.add_zero, this] at hc
      exact World.cell?_spot hc
    obtain ⟨b, off, sp⟩ := a
    obtain rfl : sp = none := hsp
    refine ⟨b, off, rfl, ?_, fun j u hj => ?_⟩
    · have := cell_lt hc
      rwa [block_of_add] at this
    · obtain ⟨y, h1, h2⟩ := flatMap_at hk h0 L j u hj
      have := (hq _ y h1).2 _ u h2
      rw [show j / k * k + j % k = j from by rw [Nat.mul_comm]; exact Nat.div_add_mod j k] at this
      have e : (⟨b, off, none⟩ : Addr).add j = ⟨b, off + j, none⟩ := by
        unfold Addr.add
        by_cases hj0 : j = 0 <;> simp [hj0]
      rwa [e] at this

theorem len1 {α : Type} {l : List α} (h : l.length = 1) : ∃ x0, l = [x0] := by
  match l, h with
  | [x0], _ => exact ⟨x0, rfl⟩
theorem len2 {α : Type} {l : List α} (h : l.length = 2) : ∃ x0 x1, l = [x0, x1] := by
  match l, h with
  | [x0, x1], _ => exact ⟨x0, x1, rfl⟩
theorem len3 {α : Type} {l : List α} (h : l.length = 3) : ∃ x0 x1 x2, l = [x0, x1, x2] := by
  match l, h with
  | [x0, x1, x2], _ => exact ⟨x0, x1, x2, rfl⟩
theorem len4 {α : Type} {l : List α} (h : l.length = 4) : ∃ x0 x1 x2 x3, l = [x0, x1, x2, x3] := by
  match l, h with
  | [x0, x1, x2, x3], _ => exact ⟨x0, x1, x2, x3, rfl⟩
theorem len5 {α : Type} {l : List α} (h : l.length = 5) : ∃ x0 x1 x2 x3 x4, l = [x0, x1, x2, x3, x4] := by
  match l, h with
  | [x0, x1, x2, x3, x4], _ => exact ⟨x0, x1, x2, x3, x4, rfl⟩
theorem len6 {α : Type} {l : List α} (h : l.length = 6) : ∃ x0 x1 x2 x3 x4 x5, l = [x0, x1, x2, x3, x4, x5] := by
  match l, h with
  | [x0, x1, x2, x3, x4, x5], _ => exact ⟨x0, x1, x2, x3, x4, x5, rfl⟩
theorem len7 {α : Type} {l : List α} (h : l.length = 7) : ∃ x0 x1 x2 x3 x4 x5 x6, l = [x0, x1, x2, x3, x4, x5, x6] := by
  match l, h with
  | [x0, x1, x2, x3, x4, x5, x6], _ => exact ⟨x0, x1, x2, x3, x4, x5, x6, rfl⟩
theorem len8 {α : Type} {l : List α} (h : l.length = 8) : ∃ x0 x1 x2 x3 x4 x5 x6 x7, l = [x0, x1, x2, x3, x4, x5, x6, x7] := by
  match l, h with
  | [x0, x1, x2, x3, x4, x5, x6, x7], _ => exact ⟨x0, x1, x2, x3, x4, x5, x6, x7, rfl⟩
section
variable {H : Type} {enc : TypeId × Value → H} {P : Program} {w : World} {base : Nat} {spare : Nat → Bool} {held : Bool}
theorem flatMap_one (k : IntKind) : ∀ L : List Int, L.flatMap (fun x : Int => [Value.int k x]) = L.map (Value.int k)
  | [] => rfl
  | x :: L => by rw [List.flatMap_cons, flatMap_one k L]; rfl
/-- a slice of integers that came in -/
theorem open_bytes {t e : TypeId} {k : IntKind} {lo hi : Int} {fuel : Nat} {A : Option Addr} {n c : Nat} {x : DataW H × List MemPlace} (ht : P.underlying t = some (.slice e)) (he : P.underlying e = some (.int k)) (hC : P.cellsOf e = 1)
    (hwf : ∀ z : Int, (Lit.int k z).wf = true → lo ≤ z ∧ z ≤ hi) (h : DataW.trod enc P w base spare held fuel t (Value.slice A n c).cells.toList = some x) :
    ∃ l : List Int, l.length = n ∧ n ≤ c ∧ c ≤ maxLen ∧ (∀ z ∈ l, lo ≤ z ∧ z ≤ hi) ∧ Reads w w.heap.size 1 A n (l.map (Value.int k)) := by
  rcases open_ints ht he hC h with ⟨hcs, _⟩ | ⟨a, len, cap, zs, hcs, _, hl, hm, hz, _, hcell, hwz⟩
  · simp [Value.cells] at hcs
    obtain ⟨rfl, rfl, rfl⟩ := hcs
    exact ⟨[], rfl, Nat.le_refl _, by simp [maxLen], by simp, Reads.none_⟩
  · simp [Value.cells] at hcs
    obtain ⟨rfl, rfl, rfl⟩ := hcs
    have hge : n ≤ zs.length := by rw [hz]; split <;> omega
    obtain ⟨L, h1, h2, h3⟩ := reads_rows (w := w) (k := 1) (n := n) (enc := fun x : Int => [Value.int k x]) (Q := fun x => lo ≤ x ∧ x ≤ hi) (fun _ => rfl) (by decide) a (fun i hi => by
      refine ⟨zs.getD i 0, hwf _ (hwz _ ?_), fun j u hu => ?_⟩
      · rw [List.getD, List.getElem?_eq_getElem (by omega)]
        exact List.getElem_mem _
      · match j, hu with
        | 0, hu =>
          simp at hu
          subst hu
          have := hcell i (by omega)
          simpa using this)
    refine ⟨L, h1, hl, hm, h2, ?_⟩
    rwa [flatMap_one] at h3
/-- a slice of structs of one-cell fields that came in -/
theorem open_structs {α : Type} {t e : TypeId} {fs : Array Field} {k : Nat} {enc' : α → List Value} {Q : α → Prop} {fuel : Nat} {A : Option Addr} {n c : Nat} {x : DataW H × List MemPlace} (ht : P.underlying t = some (.slice e)) (he : P.underlying e = some (.struct fs))
    (hone : oneCellFields P fs = true) (hC : P.cellsOf e = k) (h0 : 0 < k) (hk : fs.size = k) (hel : ∀ x, (enc' x).length = k) (h : DataW.trod enc P w base spare held fuel t (Value.slice A n c).cells.toList = some x)
    (hx : ∀ (cs : List Value) (m : Nat), cs.length = k → (∀ (j : Nat) (f : Field), fs[j]? = some f → ∃ c y, cs[j]? = some c ∧ DataW.trod enc P w base spare held m f.type [c] = some y) → ∃ x, Q x ∧ enc' x = cs) :
    ∃ l : List α, l.length = n ∧ n ≤ c ∧ c ≤ maxLen ∧ (∀ x ∈ l, Q x) ∧ Reads w w.heap.size k A n (l.flatMap enc') := by
  rcases open_slice ht h with ⟨hcs, _⟩ | ⟨a, len, cap, m, n', D, Pl, hcs, hb, hl, hm, hmm, _, hi⟩
  · simp [Value.cells] at hcs
    obtain ⟨rfl, rfl, rfl⟩ := hcs
    exact ⟨[], rfl, Nat.le_refl _, by simp [maxLen], by simp, Reads.none_⟩
  · simp [Value.cells] at hcs
    obtain ⟨rfl, rfl, rfl⟩ := hcs
    have hge : n ≤ m := by rw [hmm]; split <;> omega
    obtain ⟨L, h1, h2, h3⟩ := reads_rows (w := w) (k := k) (n := n) (enc := enc') (Q := Q) hel h0 a (fun i hin => by
      obtain ⟨cs', hc, ht'⟩ := hi i (by omega)
      rw [hC] at hc
      obtain ⟨_, hcl, hat⟩ := World.cells?_some hc
      obtain ⟨m', hf⟩ := fields_one he hone (by omega) ht'
      obtain ⟨x, hq, hex⟩ := hx cs' m' hcl hf
      refine ⟨x, hq, fun j u hu => ?_⟩
      rw [hex] at hu
      have hj : j < k := by
        have := (List.getElem?_eq_some_iff.1 hu).1
        omega
      rw [← add_of_add, hat j hj, hu])
    exact ⟨L, h1, hl, hm, h2, h3⟩
end
/-- a byte of a list that came in -/
def isU8 (x : Int) : Prop := 0 ≤ x ∧ x ≤ 255
def encU8 (x : Int) : List Value := [.int .u8 x]
theorem encU8_map (l : List Int) : l.flatMap encU8 = l.map (Value.int .u8) := by induction l <;> simp_all [encU8]
end Go.Proofs.Ytfknakcjhlonoaa
