/-
Words for memory that all walks of this seat share: a slice that reads as a list of cells, what is kept below a block, appends whose result is written out as a slice. No condition.
How an argument's reading is opened: structs of one-cell fields by value, slices of integers, slices of structs. No condition.
Appends onto a slice of the call's own, whatever the source is; the source's cells in a new block. No condition.
What the references' Copy, Cut and Same compute over bytes. No condition but the slice's own reach.
-/
import Derived.Test.YtamfjgioajmnpaaGreatDoorRows
import Derived.WalkKit
import Derived.WalkSpells
import Derived.WalkLawsBesides
import Derived.Below
import Derived.Laws.OwnMore
import Derived.Laws.BitsAllLaws
import Derived.Deep.AppendLies
import Derived.Deep.Draws
import Derived.Deep.QuietTactic
import Derived.BigQuiet
import Derived.Lib.Hide
import Derived.ProofKit
import Derived.OpenShut
import Derived.ShutString
import Derived.ChangeOld
import Derived.Lib.SmallJoins
import Derived.Deep.Slices
import Derived.Deep.Fields
import Derived.ChangeSame
import Derived.Maps.AppendAt
namespace Go.Proofs.YtamfjgioajmnpaaGreatDoor
open Go.RowKit

theorem block_of_add (a : Addr) (n : Nat) : (a.add n).block = a.block := by unfold Addr.add; split <;> rfl
theorem add_of_add (a : Addr) (i j : Nat) : (a.add i).add j = a.add (i + j) := by
  unfold Addr.add
  by_cases hi : i = 0 <;> by_cases hj : j = 0 <;> simp [hi, hj, Nat.add_assoc]

/-- The slice with head `A` and `n` elements of `size` cells holds the cells `xs`, all below block `B`. -/
def Reads (w : World) (B size : Nat) (A : Option Addr) (n : Nat) (xs : List Value) : Prop :=
  xs.length = n * size ∧ (0 < n → ∃ b off, A = some ⟨b, off, none⟩ ∧ b < B ∧ ∀ j u, xs[j]? = some u → w.cell? ⟨b, off + j, none⟩ = some u)

section
variable {w w' : World} {B B' size n : Nat} {A : Option Addr} {xs : List Value}
theorem Reads.none_ : Reads w B size A 0 [] := ⟨by simp, fun h => absurd h (by omega)⟩
theorem Reads.keep (h : Reads w B size A n xs) (hk : ∀ p : Addr, p.block < B → w'.cell? p = w.cell? p) : Reads w' B size A n xs :=
  ⟨h.1, fun hn => by
    obtain ⟨b, off, e, hb, hc⟩ := h.2 hn
    exact ⟨b, off, e, hb, fun j u hu => (hk ⟨b, off + j, none⟩ hb).trans (hc j u hu)⟩⟩
theorem Reads.more (h : Reads w B size A n xs) (hB : B ≤ B') : Reads w B' size A n xs :=
  ⟨h.1, fun hn => by
    obtain ⟨b, off, e, hb, hc⟩ := h.2 hn
    exact ⟨b, off, e, by omega, hc⟩⟩
theorem Reads.below (h : Reads w B size A n xs) (hb : Below B w w') : Reads w' B size A n xs := h.keep fun _ hp => hb.cell hp
theorem Reads.drew (h : Reads w B size A n xs) : Reads w.drew B size A n xs := h
theorem Reads.alloc (h : Reads w B size A n xs) (hB : B ≤ w.heap.size) (o : Obj) : Reads (w.alloc o) B size A n xs := h.keep fun p hp => World.cell?_alloc_lt w o p (by omega)
theorem Reads.take (h : Reads w B size A n xs) {k : Nat} (hk : k ≤ n) : Reads w B size A k (xs.take (k * size)) := by
  have hle : k * size ≤ n * size := Nat.mul_le_mul_right _ hk
  refine ⟨by rw [List.length_take, h.1]; omega, fun hn => ?_⟩
  obtain ⟨b, off, e, hb, hc⟩ := h.2 (by omega)
  refine ⟨b, off, e, hb, fun j u hu => hc j u ?_⟩
  rw [List.getElem?_take] at hu
  split at hu
  · exact hu
  · cases hu
theorem Reads.cut (h : Reads w B size A n xs) {k cap : Nat} (hk : k ≤ n) (hc : n ≤ cap) :
    Reads w B size (if cap = k then A else A.map (·.add (k * size))) (n - k) (xs.drop (k * size)) := by
  refine ⟨by rw [List.length_drop, h.1, Nat.sub_mul], fun hn => ?_⟩
  obtain ⟨b, off, rfl, hb, hcell⟩ := h.2 (by omega)
  rw [if_neg (by omega)]
  refine ⟨b, off + k * size, by simp [Addr.add], hb, fun j u hu => ?_⟩
  rw [Nat.add_assoc]
  exact hcell _ u (by rw [← hu, List.getElem?_drop])
/-- the i-th element's j-th cell -/
theorem Reads.at_ {b off : Nat} (h : Reads w B size (some ⟨b, off, none⟩) n xs) {j : Nat} (hj : j < n * size) : b < B ∧ ∃ u, xs[j]? = some u ∧ w.cell? ⟨b, off + j, none⟩ = some u := by
  have h0 : 0 < n := by
    rcases Nat.eq_zero_or_pos n with h0 | h0
    · rw [h0] at hj; omega
    · exact h0
  obtain ⟨b', off', e, hb, hc⟩ := h.2 h0
  injection e with e
  injection e with e1 e2 _
  subst e1; subst e2
  have hl : j < xs.length := by rw [h.1]; exact hj
  exact ⟨hb, xs[j], List.getElem?_eq_getElem hl, hc j _ (List.getElem?_eq_getElem hl)⟩
theorem Reads.form (h : Reads w B size A n xs) (hn : 0 < n) : ∃ b off, A = some ⟨b, off, none⟩ ∧ b < B := by
  obtain ⟨b, off, e, hb, _⟩ := h.2 hn
  exact ⟨b, off, e, hb⟩
theorem Reads.of_own {base : Nat} {e : TypeId} {c : Nat} (h : w.ownsRow base e size (.slice A n c) n xs) : Reads w w.heap.size size A n xs := by
  refine ⟨h.1, fun hn => ?_⟩
  obtain ⟨g, cap, hv, _, hlt⟩ := h.form hn
  have hA : A = some ⟨g, 0, none⟩ := by injection hv
  subst hA
  refine ⟨g, 0, rfl, hlt, fun j u hu => ?_⟩
  have h1 := h.cells (g := g) rfl j u hu
  have h2 : (⟨g, 0 + j, none⟩ : Addr) = (⟨g, 0, none⟩ : Addr).add j := by
    unfold Addr.add
    by_cases hj : j = 0 <;> simp [hj]
  rw [h2]
  exact h1
end

/-- what an owned row's value looks like -/
theorem own_form {w : World} {base : Nat} {e : TypeId} {size n : Nat} {v : Value} {xs : List Value} (h : w.ownsRow base e size v n xs) : ∃ A c, v = .slice A n c ∧ n ≤ c ∧ c ≤ maxLen := by
  rcases h.2 with ⟨rfl, rfl⟩ | ⟨g, cap, cur, rfl, _, _, h1, h2, _⟩
  · exact ⟨none, 0, rfl, Nat.le_refl _, by simp [maxLen]⟩
  · exact ⟨_, _, rfl, h1, h2⟩

theorem bcell {W w1 : World} (hb : Below W.heap.size W w1) : (∀ b o, b < W.heap.size → w1.cell? ⟨b, o, none⟩ = W.cell? ⟨b, o, none⟩) ∧ (∀ b o, b < W.heap.size → w1.frozen? ⟨b, o, none⟩ = W.frozen? ⟨b, o, none⟩) :=
  ⟨fun b o h => hb.cell (p := ⟨b, o, none⟩) h, fun b o h => hb.frozen (p := ⟨b, o, none⟩) h⟩
theorem below_drewN {B : Nat} {a w : World} (h : Below B a w) (n : Nat) : Below B a (w.drewN n) := ⟨h.os, h.tape, h.output, h.size, h.block⟩
theorem below_drew {B : Nat} {a w : World} (h : Below B a w) : Below B a w.drew := ⟨h.os, h.tape, h.output, h.size, h.block⟩
/-- what lay there is as it was; at most new blocks -/
def Up (w w' : World) : Prop := Below w.heap.size w w'
section
variable {a b c : World}
theorem Up.refl (a : World) : Up a a := Below.refl _ _
theorem Up.size (h : Up a b) : a.heap.size ≤ b.heap.size := Below.size h
theorem Up.trans (h : Up a b) (k : Up b c) : Up a c := Below.trans h (Below.mono k h.size)
theorem Up.alloc (h : Up a b) (o : Obj) : Up a (b.alloc o) := Below.alloc h h.size o
theorem Up.drew (h : Up a b) : Up a b.drew := below_drew h
theorem Up.drewN (h : Up a b) (n : Nat) : Up a (b.drewN n) := below_drewN h n
theorem Up.setCell (h : Up a b) {p : Addr} (hp : a.heap.size ≤ p.block) (u : Value) : Up a (b.setCell p u) := Below.setCell h hp u
theorem Up.cells (h : Up a b) : (∀ n o, n < a.heap.size → b.cell? ⟨n, o, none⟩ = a.cell? ⟨n, o, none⟩) ∧ (∀ n o, n < a.heap.size → b.frozen? ⟨n, o, none⟩ = a.frozen? ⟨n, o, none⟩) := bcell h
theorem Up.at_ (h : Up a b) (n : Nat) (hn : n < a.heap.size) : (∀ o, b.cell? ⟨n, o, none⟩ = a.cell? ⟨n, o, none⟩) ∧ (∀ o, b.frozen? ⟨n, o, none⟩ = a.frozen? ⟨n, o, none⟩) := ⟨fun o => h.cells.1 n o hn, fun o => h.cells.2 n o hn⟩
theorem Up.grown (h : Up a b) {row : Option Nat} (hg : b.grownBy c row) (hr : ∀ g, row = some g → a.heap.size ≤ g) : Up a c := Below.grown h hg h.size hr
theorem Reads.up {size n : Nat} {A : Option Addr} {xs : List Value} (h : Reads a a.heap.size size A n xs) (hu : Up a b) : Reads b b.heap.size size A n xs := (h.below hu).more hu.size
theorem own_up {base : Nat} {e : TypeId} {size n : Nat} {v : Value} {xs : List Value} (h : a.ownsRow base e size v n xs) (hu : Up a b) : b.ownsRow base e size v n xs := by
  refine ⟨h.1, ?_⟩
  rcases h.2 with h0 | ⟨g, cap, cur, e1, e2, e3, e4⟩
  · exact .inl h0
  · have hlt : g < a.heap.size := by
      rcases Nat.lt_or_ge g a.heap.size with hlt | hge
      · exact hlt
      · rw [Array.getElem?_eq_none hge] at e3; cases e3
    exact .inr ⟨g, cap, cur, e1, e2, (hu.block g hlt).trans e3, e4⟩
end

theorem ret_int {k : IntKind} {a b : Int} (h : a = b) : Ending.returned (.int k a) = .returned (.int k b) := by rw [h]
theorem ret_bool {a b : Bool} (h : a = b) : Ending.returned (.bool a) = .returned (.bool b) := by rw [h]
/-! A region that draws its order, whose operations only read and whose callees at most make new blocks: one walk in the text's order. -/
noncomputable def upOf (w W : World) : World := @ite _ (Up w W) (Classical.propDecidable _) W w
theorem up_upOf (w W : World) : Up w (upOf w W) := by
  unfold upOf
  split
  · assumption
  · exact Up.refl w
theorem upOf_of {w W : World} (h : Up w W) : upOf w W = W := by unfold upOf; rw [if_pos h]
instance worldThere : Nonempty World := ⟨default⟩
@[go_sem] theorem upOf_cell (w W : World) (n i : Nat) (hn : n < w.heap.size) : (upOf w W).cell? ⟨n, i, none⟩ = w.cell? ⟨n, i, none⟩ := (up_upOf w W).cells.1 n i hn

section
variable {P : Program}
theorem wp_region_up_lit {id : Nat} {Q : Exit → Act → World → Prop} {a : Act} {w : World} {l : List Oper} (hm : P.follows .mixedOrders = true) (hB : Region.lexB .any l.toArray = true)
    (h : wpQuiet P l.toArray (fun w' => ∃ W, w' = upOf w W) (fun a' => ∀ w', (∃ W, w' = upOf w W) → Q .normal a' w') l a) : (Code.region id l.toArray true).wp P Q a w :=
  wp_region_quiet (C := fun w' => ∃ W, w' = upOf w W) hm hB ⟨w.drew, (upOf_of (Up.refl w).drew).symm⟩ (by simpa using h)
theorem up_call {f : FuncId} {args : Array Value} {w n : World} {v : Value} (h : Calls P f args (upOf w n) fun e w' => e = .returned v ∧ Up (upOf w n) w') :
    Calls P f args (upOf w n) fun e w'' => e = .returned v ∧ ∃ W, w'' = upOf w W :=
  h.mono fun _ _ ⟨he, hu⟩ => ⟨he, _, (upOf_of ((up_upOf w n).trans hu)).symm⟩
theorem up_same {f : FuncId} {args : Array Value} {w n : World} {v : Value} (h : Calls P f args (upOf w n) fun e w' => e = .returned v ∧ upOf w n = w') :
    Calls P f args (upOf w n) fun e w'' => e = .returned v ∧ ∃ W, w'' = upOf w W :=
  h.mono fun _ _ ⟨he, hu⟩ => ⟨he, n, hu.symm⟩
end
end Go.Proofs.YtamfjgioajmnpaaGreatDoor
namespace Go.Proofs.YtamfjgioajmnpaaGreatDoor
open Go.ChangeShapes Go.WideShapes Go.ChangeAt Go.RowKit Go.Joins Go.Deep
set_option linter.unusedVariables false

theorem own : ownKnob Tryz.prog.godebug = none := by kernel_rfl
theorem laidOut : laidOutB Tryz.prog = true := by kernel_rfl

section
variable {H : Type} {enc : TypeId × Value → H} {P : Program} {w : World} {base : Nat} {spare : Nat → Bool} {held : Bool}

/-- each field of a struct of one-cell fields, as it lies among the cells -/
theorem fields_one {t : TypeId} {fs : Array Field} {fuel : Nat} {cs : List Value} {x : DataW H × List MemPlace} (hs : P.underlying t = some (.struct fs)) (hone : oneCellFields P fs = true) (hlen : cs.length = fs.size)
    (hf : DataW.trod enc P w base spare held fuel t cs = some x) : ∃ n, ∀ (j : Nat) (f : Field), fs[j]? = some f → ∃ c y, cs[j]? = some c ∧ DataW.trod enc P w base spare held n f.type [c] = some y := by
  obtain ⟨ys, n, _, _, _, hyl, hg⟩ := DataW.trod_struct hs hf
  refine ⟨n, fun j f hj => ?_⟩
  obtain ⟨ho, hk⟩ := hone_of hone j f hj
  have hjl : j < fs.size := (Array.getElem?_eq_some_iff.1 hj).1
  have h1 := hg j f hj
  rw [ho, hk] at h1
  have hone' : (cs.drop j).take 1 = [cs[j]'(by omega)] := by
    rw [List.drop_eq_getElem_cons (by omega)]
    rfl
  rw [hone'] at h1
  have hys : ys[j]? = some (ys[j]'(by omega)) := List.getElem?_eq_getElem (by omega)
  exact ⟨_, _, List.getElem?_eq_getElem (by omega), h1.trans hys⟩

theorem cell_lt {w : World} {a : Addr} {v : Value} (h : w.cell? a = some v) : a.block < w.heap.size := by
  rcases Nat.lt_or_ge a.block w.heap.size with hlt | hge
  · exact hlt
  · simp [World.cell?, Array.getElem?_eq_none hge] at h
end

theorem list_of {α : Type} {Q : Nat → α → Prop} : ∀ {n : Nat}, (∀ i, i < n → ∃ x, Q i x) → ∃ l : List α, l.length = n ∧ ∀ i x, l[i]? = some x → Q i x
  | 0, _ => ⟨[], rfl, fun i x h => by simp at h⟩
  | n + 1, h => by
    obtain ⟨l, hl, hq⟩ := list_of (n := n) fun i hi => h i (by omega)
    obtain ⟨x, hx⟩ := h n (by omega)
    refine ⟨l ++ [x], by simp [hl], fun i y hy => ?_⟩
    rcases Nat.lt_trichotomy i n with hlt | heq | hgt
    · rw [List.getElem?_append_left (by omega)] at hy
      exact hq i y hy
    · subst heq
      rw [List.getElem?_append_right (by omega)] at hy
      simp [hl] at hy
      subst hy
      exact hx
    · rw [List.getElem?_append_right (by omega), List.getElem?_eq_none (by simp; omega)] at hy
      cases hy

theorem flatMap_at {α : Type} {k : Nat} {enc : α → List Value} (hk : ∀ x, (enc x).length = k) (h0 : 0 < k) : ∀ (l : List α) (j : Nat) (u : Value), (l.flatMap enc)[j]? = some u → ∃ x, l[j / k]? = some x ∧ (enc x)[j % k]? = some u
  | [], j, u, h => by simp at h
  | x :: l, j, u, h => by
    rw [List.flatMap_cons] at h
    rcases Nat.lt_or_ge j k with hlt | hge
    · rw [List.getElem?_append_left (by rw [hk]; exact hlt)] at h
      exact ⟨x, by rw [Nat.div_eq_of_lt hlt]; rfl, by rw [Nat.mod_eq_of_lt hlt]; exact h⟩
    · rw [List.getElem?_append_right (by rw [hk]; exact hge), hk] at h
      obtain ⟨y, h1, h2⟩ := flatMap_at hk h0 l (j - k) u h
      refine ⟨y, ?_, ?_⟩
      · rw [Nat.div_eq_sub_div h0 hge]
        exact h1
      · rw [Nat.mod_eq_sub_mod hge]
        exact h2
theorem flatMap_len {α : Type} {k : Nat} {enc : α → List Value} (hk : ∀ x, (enc x).length = k) : ∀ (l : List α), (l.flatMap enc).length = l.length * k
  | [] => by simp
  | x :: l => by rw [List.flatMap_cons, List.length_append, hk, flatMap_len hk l, List.length_cons, Nat.succ_mul, Nat.add_comm]

/-- rows of one shape, each of its own datum, read as a list of data -/
theorem reads_rows {α : Type} {w : World} {k n : Nat} {enc : α → List Value} {Q : α → Prop} (hk : ∀ x, (enc x).length = k) (h0 : 0 < k) (a : Addr)
    (h : ∀ i, i < n → ∃ x, Q x ∧ ∀ j u, (enc x)[j]? = some u → w.cell? (a.add (i * k + j)) = some u) :
    ∃ L : List α, L.length = n ∧ (∀ x ∈ L, Q x) ∧ Reads w w.heap.size k (some a) n (L.flatMap enc) := by
  obtain ⟨L, hl, hq⟩ := list_of h
  refine ⟨L, hl, fun x hx => ?_, by rw [flatMap_len hk, hl], fun hn => ?_⟩
  · obtain ⟨i, hi⟩ := List.getElem?_of_mem hx
    exact (hq i x hi).1
  · obtain ⟨x, hx⟩ : ∃ x, L[0]? = some x := ⟨L[0]'(by omega), List.getElem?_eq_getElem (by omega)⟩
    have hu : (enc x)[0]? = some ((enc x)[0]'(by rw [hk]; exact h0)) := List.getElem?_eq_getElem _
    have hc := (hq 0 x hx).2 0 _ hu
    have hsp : a.spot = none := by
      have : w.cell? (a.add 0) = w.cell? a := by simp [Addr.add]
      simp only [Nat.zero_mul, Nat.add_zero, this] at hc
      exact World.cell?_spot hc
    obtain ⟨b, off, sp⟩ := a
    obtain rfl : sp = none := hsp
    refine ⟨b, off, rfl, ?_, fun j u hj => ?_⟩
    · have := cell_lt hc
      rwa [block_of_add] at this
    · obtain ⟨y, h1, h2⟩ := flatMap_at hk h0 L j u hj
      have := (hq _ y h1).2 _ u h2
      rw [show j / k * k + j % k = j from by rw [Nat.mul_comm]; exact Nat.div_add_mod j k] at this
      have e : (⟨b, off, none⟩ : Addr).add j = ⟨b, off + j, none⟩ := by
        unfold Addr.add
        by_cases hj0 : j = 0 <;> simp [hj0]
      rwa [e] at this

theorem len4 {α : Type} {l : List α} (h : l.length = 4) : ∃ x0 x1 x2 x3, l = [x0, x1, x2, x3] := by
  match l, h with
  | [x0, x1, x2, x3], _ => exact ⟨x0, x1, x2, x3, rfl⟩
section
variable {H : Type} {enc : TypeId × Value → H} {P : Program} {w : World} {base : Nat} {spare : Nat → Bool} {held : Bool}
theorem flatMap_one (k : IntKind) : ∀ L : List Int, L.flatMap (fun x : Int => [Value.int k x]) = L.map (Value.int k)
  | [] => rfl
  | x :: L => by rw [List.flatMap_cons, flatMap_one k L]; rfl
/-- a slice of integers that came in -/
theorem open_bytes {t e : TypeId} {k : IntKind} {lo hi : Int} {fuel : Nat} {A : Option Addr} {n c : Nat} {x : DataW H × List MemPlace} (ht : P.underlying t = some (.slice e)) (he : P.underlying e = some (.int k)) (hC : P.cellsOf e = 1)
    (hwf : ∀ z : Int, (Lit.int k z).wf = true → lo ≤ z ∧ z ≤ hi) (h : DataW.trod enc P w base spare held fuel t (Value.slice A n c).cells.toList = some x) :
    ∃ l : List Int, l.length = n ∧ n ≤ c ∧ c ≤ maxLen ∧ (∀ z ∈ l, lo ≤ z ∧ z ≤ hi) ∧ Reads w w.heap.size 1 A n (l.map (Value.int k)) := by
  rcases open_ints ht he hC h with ⟨hcs, _⟩ | ⟨a, len, cap, zs, hcs, _, hl, hm, hz, _, hcell, hwz⟩
  · simp [Value.cells] at hcs
    obtain ⟨rfl, rfl, rfl⟩ := hcs
    exact ⟨[], rfl, Nat.le_refl _, by simp [maxLen], by simp, Reads.none_⟩
  · simp [Value.cells] at hcs
    obtain ⟨rfl, rfl, rfl⟩ := hcs
    have hge : n ≤ zs.length := by rw [hz]; split <;> omega
    obtain ⟨L, h1, h2, h3⟩ := reads_rows (w := w) (k := 1) (n := n) (enc := fun x : Int => [Value.int k x]) (Q := fun x => lo ≤ x ∧ x ≤ hi) (fun _ => rfl) (by decide) a (fun i hi => by
      refine ⟨zs.getD i 0, hwf _ (hwz _ ?_), fun j u hu => ?_⟩
      · rw [List.getD, List.getElem?_eq_getElem (by omega)]
        exact List.getElem_mem _
      · match j, hu with
        | 0, hu =>
          simp at hu
          subst hu
          have := hcell i (by omega)
          simpa using this)
    refine ⟨L, h1, hl, hm, h2, ?_⟩
    rwa [flatMap_one] at h3
/-- a slice of structs of one-cell fields that came in -/
theorem open_structs {α : Type} {t e : TypeId} {fs : Array Field} {k : Nat} {enc' : α → List Value} {Q : α → Prop} {fuel : Nat} {A : Option Addr} {n c : Nat} {x : DataW H × List MemPlace} (ht : P.underlying t = some (.slice e)) (he : P.underlying e = some (.struct fs))
    (hone : oneCellFields P fs = true) (hC : P.cellsOf e = k) (h0 : 0 < k) (hk : fs.size = k) (hel : ∀ x, (enc' x).length = k) (h : DataW.trod enc P w base spare held fuel t (Value.slice A n c).cells.toList = some x)
    (hx : ∀ (cs : List Value) (m : Nat), cs.length = k → (∀ (j : Nat) (f : Field), fs[j]? = some f → ∃ c y, cs[j]? = some c ∧ DataW.trod enc P w base spare held m f.type [c] = some y) → ∃ x, Q x ∧ enc' x = cs) :
    ∃ l : List α, l.length = n ∧ n ≤ c ∧ c ≤ maxLen ∧ (∀ x ∈ l, Q x) ∧ Reads w w.heap.size k A n (l.flatMap enc') := by
  rcases open_slice ht h with ⟨hcs, _⟩ | ⟨a, len, cap, m, n', D, Pl, hcs, hb, hl, hm, hmm, _, hi⟩
  · simp [Value.cells] at hcs
    obtain ⟨rfl, rfl, rfl⟩ := hcs
    exact ⟨[], rfl, Nat.le_refl _, by simp [maxLen], by simp, Reads.none_⟩
  · simp [Value.cells] at hcs
    obtain ⟨rfl, rfl, rfl⟩ := hcs
    have hge : n ≤ m := by rw [hmm]; split <;> omega
    obtain ⟨L, h1, h2, h3⟩ := reads_rows (w := w) (k := k) (n := n) (enc := enc') (Q := Q) hel h0 a (fun i hin => by
      obtain ⟨cs', hc, ht'⟩ := hi i (by omega)
      rw [hC] at hc
      obtain ⟨_, hcl, hat⟩ := World.cells?_some hc
      obtain ⟨m', hf⟩ := fields_one he hone (by omega) ht'
      obtain ⟨x, hq, hex⟩ := hx cs' m' hcl hf
      refine ⟨x, hq, fun j u hu => ?_⟩
      rw [hex] at hu
      have hj : j < k := by
        have := (List.getElem?_eq_some_iff.1 hu).1
        omega
      rw [← add_of_add, hat j hj, hu])
    exact ⟨L, h1, hl, hm, h2, h3⟩
end
end Go.Proofs.YtamfjgioajmnpaaGreatDoor
namespace Go.Proofs.YtamfjgioajmnpaaGreatDoor
open Go.RowKit
set_option linter.unusedVariables false

theorem at_add (b off j : Nat) : (⟨b, off, none⟩ : Addr).add j = ⟨b, off + j, none⟩ := by
  unfold Addr.add
  by_cases hj : j = 0 <;> simp [hj]

theorem reads_new (w : World) (size m : Nat) (cs : Array Value) (t : TypeId) (h : cs.size = m * size) :
    Reads (w.alloc (.cells cs t)) (w.heap.size + 1) size (some ⟨w.heap.size, 0, none⟩) m cs.toList :=
  ⟨by simpa using h, fun _ => ⟨w.heap.size, 0, rfl, by omega, fun j u hu => by
    rw [Nat.zero_add, World.cell?_alloc_new]
    simpa using hu⟩⟩

theorem reads_at (w : World) (g size m : Nat) (cs : Array Value) (t : TypeId) (h : cs.size = m * size) (hg : g = w.heap.size) :
    Reads (w.alloc (.cells cs t)) (w.heap.size + 1) size (some ⟨g, 0, none⟩) m cs.toList := by
  subst hg
  exact reads_new w size m cs t h

section
variable {P : Program} (w : World)

theorem run_app (base : Nat) (t ty e : TypeId) (i : TypeInfo) (z : Value) (size bytes : Nat) (ht : P.underlying t = some (.slice e)) (hi : P.info? e = some i) (hz : i.zero = some z)
    (hsize : i.size = size) (hby : i.bytes = bytes) (hzs : z.cells.size = size) (hsz : 0 < size)
    (A : Option Addr) (n c : Nat) (xs : List Value) (hown : w.ownsRow base e size (.slice A n c) n xs)
    (B : Nat) (Ax : Option Addr) (m cx : Nat) (news : List Value) (hr : Reads w B size Ax m news) (h1 : ∀ u ∈ news, u.oneCell' = true)
    (h63 : n + m ≤ maxLen) (hbytes : (n + m) * bytes ≤ 140737488355328) (hbase : base ≤ w.heap.size) :
    ∃ A' c' w', (Builtin.append_ #[t, t] ty #[.slice A n c, .slice Ax m cx]).run P w = .ok (.slice A' (n + m) c') w' ∧ w'.ownsRow base e size (.slice A' (n + m) c') (n + m) (xs ++ news) ∧ w.grownBy w' (Value.slice A n c).ownBlock ∧
      n + m ≤ c' ∧ c' ≤ maxLen ∧ Below base w w' := by
  have hgb : ∀ {w' : World}, w.grownBy w' (Value.slice A n c).ownBlock → Below base w w' := fun hg =>
    (Below.refl base w).grown hg hbase fun k hk => by
      rcases hown.2 with ⟨e1, _⟩ | ⟨g, cap, cur, e1, h2, _⟩
      · injection e1 with e1 _ _
        subst e1
        simp [Value.ownBlock] at hk
      · injection e1 with e1 _ _
        subst e1
        simp [Value.ownBlock] at hk
        omega
  rcases Ax with _ | ad
  · have hm : m = 0 := by
      rcases Nat.eq_zero_or_pos m with h0 | h0
      · exact h0
      · obtain ⟨_, _, h, _⟩ := hr.2 h0
        cases h
    subst hm
    have hn : news = [] := List.eq_nil_of_length_eq_zero (by simpa using hr.1)
    subst hn
    obtain ⟨A0, c0, e0, hle, hmx⟩ := own_form hown
    injection e0 with e1 _ e2
    subst e1; subst e2
    refine ⟨A, c, w, ?_, by simpa using hown, World.grownBy.refl w _, by simpa using hle, hmx, Below.refl _ _⟩
    rcases hown.2 with ⟨e1, rfl⟩ | ⟨g, cap, cur, e1, _, _, hnc, _⟩
    · injection e1 with e1 _ e2
      subst e1; subst e2
      simp [Builtin.append_, run_underlying ht, sizeOf, typeInfo, hi, Builtin.lenOf, Builtin.firstCells]
    · injection e1 with e1 _ e2
      subst e1; subst e2
      simp [Builtin.append_, run_underlying ht, sizeOf, typeInfo, hi, Builtin.lenOf, Builtin.firstCells, hnc, storeCells]
  · have hcells : ∀ j u, news[j]? = some u → w.cell? (ad.add j) = some u := by
      intro j u hu
      rcases Nat.eq_zero_or_pos m with h0 | h0
      · subst h0
        have hn : news = [] := List.eq_nil_of_length_eq_zero (by simpa using hr.1)
        subst hn
        simp at hu
      · obtain ⟨b, off, h, _, hc⟩ := hr.2 h0
        injection h with h
        subst h
        rw [at_add]
        exact hc j u hu
    obtain ⟨v', w', hrun, h2, h3, _, _⟩ := run_append_own_at (P := P) w base t ty e i z size bytes ht hi hz hsize hby hzs hsz _ n xs hown ad m cx news hr.1 hcells h1 h63 hbytes hbase
    obtain ⟨A', c', rfl, hle, hmx⟩ := own_form h2
    exact ⟨A', c', w', hrun, h2, h3, hle, hmx, hgb h3⟩

theorem wpList_app {ops : Array Oper} {rest : List Oper} {o : Oper} {a : Act} {Q : Exit → Act → World → Prop} (hgd : o.guard = none) (s x : Operand) (t : TypeId)
    (ho : o.op = .call { callee := .builtin .append, args := #[s, x], argTypes := #[t, t] })
    (base : Nat) (e : TypeId) (i : TypeInfo) (z : Value) (size bytes : Nat) (ht : P.underlying t = some (.slice e)) (hi : P.info? e = some i) (hz : i.zero = some z)
    (hsize : i.size = size) (hby : i.bytes = bytes) (hzs : z.cells.size = size) (hsz : 0 < size)
    (A : Option Addr) (n c : Nat) (xs : List Value) (hs : a.eval s = .slice A n c) (hown : w.ownsRow base e size (.slice A n c) n xs)
    (B : Nat) (Ax : Option Addr) (m cx : Nat) (news : List Value) (hx : a.eval x = .slice Ax m cx) (hr : Reads w B size Ax m news) (h1 : ∀ u ∈ news, u.oneCell' = true)
    (h63 : n + m ≤ maxLen) (hbytes : (n + m) * bytes ≤ 140737488355328) (hbase : base ≤ w.heap.size)
    (h : ∀ A' c' w', w'.ownsRow base e size (.slice A' (n + m) c') (n + m) (xs ++ news) → w.grownBy w' (Value.slice A n c).ownBlock → n + m ≤ c' → c' ≤ maxLen → Below base w w' →
      wpList P ops Q rest (a.put o.dst (.slice A' (n + m) c')) w') : wpList P ops Q (o :: rest) a w := by
  refine wpList_plain hgd fun K hK => ?_
  obtain ⟨A', c', w', hr', h2, h3, h4, h5, h6⟩ := run_app (P := P) w base t o.type e i z size bytes ht hi hz hsize hby hzs hsz A n c xs hown B Ax m cx news hr h1 h63 hbytes hbase
  unfold Oper.wp execOp
  simp only [ho, resolve, invoke, builtin, Sem.run_bind, Sem.run_pure, Result.andThen_ok, List.map_toArray, List.map_cons, List.map_nil, hs, hx, hr']
  exact hK _ _ (h A' c' w' h2 h3 h4 h5 h6)
end
theorem Up.past {a b c : World} (h : Up a b) (k : Below a.heap.size b c) : Up a c := Below.trans h k
theorem one_u8 (l : List Int) : ∀ u ∈ l.map (Value.int .u8), u.oneCell' = true := ints_oneCell _ _
theorem own_bd {w : World} {base : Nat} {e : TypeId} {size n : Nat} {v : Value} {xs : List Value} (h : w.ownsRow base e size v n xs) : ∀ g, v.ownBlock = some g → base ≤ g ∧ g < w.heap.size := by
  intro g hg
  rcases h.2 with ⟨rfl, _⟩ | ⟨g', cap, cur, rfl, e2, e3, _⟩
  · simp [Value.ownBlock] at hg
  · simp [Value.ownBlock] at hg
    subst hg
    refine ⟨e2, ?_⟩
    rcases Nat.lt_or_ge g' w.heap.size with hlt | hge
    · exact hlt
    · rw [Array.getElem?_eq_none hge] at e3; cases e3
theorem grown_at {a b : World} {row : Option Nat} (h : a.grownBy b row) (n : Nat) (hn : n < a.heap.size) (hr : row ≠ some n) : (∀ o, b.cell? ⟨n, o, none⟩ = a.cell? ⟨n, o, none⟩) ∧ (∀ o, b.frozen? ⟨n, o, none⟩ = a.frozen? ⟨n, o, none⟩) :=
  ⟨fun o => World.cell?_of_block (h.block n hn (fun e => hr e.symm)), fun o => World.frozen?_of_block (h.block n hn (fun e => hr e.symm))⟩
theorem own_far {w : World} {base : Nat} {e : TypeId} {size n : Nat} {v : Value} {xs : List Value} (h : w.ownsRow base e size v n xs) {p : Addr} (hp : p.block < base) (u : Value) : (w.setCell p u).ownsRow base e size v n xs := by
  refine ⟨h.1, ?_⟩
  rcases h.2 with h0 | ⟨g, cap, cur, e1, e2, e3, e4⟩
  · exact .inl h0
  · exact .inr ⟨g, cap, cur, e1, e2, (Below.heap_setCell w p u g (by omega)).trans e3, e4⟩
theorem own_base {w : World} {base base' : Nat} {e : TypeId} {size n : Nat} {v : Value} {xs : List Value} (h : w.ownsRow base e size v n xs) (hb : base' ≤ base) : w.ownsRow base' e size v n xs := by
  refine ⟨h.1, ?_⟩
  rcases h.2 with h0 | ⟨g, cap, cur, e1, e2, e3⟩
  · exact .inl h0
  · exact .inr ⟨g, cap, cur, e1, by omega, e3⟩
end Go.Proofs.YtamfjgioajmnpaaGreatDoor
namespace Go.Proofs.YtamfjgioajmnpaaGreatDoor
open Go.RowKit
set_option linter.unusedVariables false
set_option linter.unusedSimpArgs false

theorem info_u8 : (Tryz.prog.info? 5).map (fun i => (i.zero, i.size, i.bytes)) = some (some (.int .u8 0), 1, 1) := by kernel_rfl
def bs (l : List Int) : List Value := l.map (Value.int .u8)

/-- the string of these bytes -/
def strOf (l : List Int) : ByteArray := (l).foldl (fun r n => r.push (UInt8.ofNat n.toNat)) ByteArray.empty
theorem push_list : ∀ (l : List Int) (r : ByteArray), (l.foldl (fun r n => r.push (UInt8.ofNat n.toNat)) r).data.toList = r.data.toList ++ l.map fun n => UInt8.ofNat n.toNat
  | [], r => by simp
  | n :: l, r => by
    rw [List.foldl_cons, push_list l]
    simp [ByteArray.push]
theorem strOf_list (l : List Int) : (strOf l).data.toList = l.map fun n => UInt8.ofNat n.toNat := by
  unfold strOf
  rw [push_list]
  simp
theorem byte_inj {a b : Int} (ha : 0 ≤ a ∧ a ≤ 255) (hb : 0 ≤ b ∧ b ≤ 255) (h : UInt8.ofNat a.toNat = UInt8.ofNat b.toNat) : a = b := by
  have := congrArg UInt8.toNat h
  simp at this
  omega
theorem strOf_inj : ∀ {l m : List Int}, (∀ x ∈ l, 0 ≤ x ∧ x ≤ 255) → (∀ x ∈ m, 0 ≤ x ∧ x ≤ 255) → (l.map fun n => UInt8.ofNat n.toNat) = (m.map fun n => UInt8.ofNat n.toNat) → l = m
  | [], [], _, _, _ => rfl
  | [], _ :: _, _, _, h => by simp at h
  | _ :: _, [], _, _, h => by simp at h
  | a :: l, b :: m, hl, hm, h => by
    simp only [List.map_cons, List.cons.injEq] at h
    rw [byte_inj (hl a (by simp)) (hm b (by simp)) h.1, strOf_inj (fun x hx => hl x (by simp [hx])) (fun x hx => hm x (by simp [hx])) h.2]
theorem run_string_bytes {P : Program} (w : World) (src dst e : TypeId) {B n c : Nat} {A : Option Addr} {l : List Int}
    (hs : P.underlying src = some (.slice e)) (he : P.underlying e = some (.int .u8)) (hd : P.underlying dst = some .string) (hr : Reads w B 1 A n (bs l)) :
    (convert src dst (.slice A n c)).run P w = .ok (.string (strOf l)) w := by
  have hlen : l.length = n := by simpa [bs] using hr.1
  cases A with
  | none =>
    have h0 : n = 0 := by
      rcases Nat.eq_zero_or_pos n with h0 | h0
      · exact h0
      · obtain ⟨_, _, h, _⟩ := hr.2 h0
        cases h
    subst h0
    obtain rfl : l = [] := List.eq_nil_of_length_eq_zero hlen
    simp [convert, run_underlying hs, run_underlying hd, run_underlying he, Conv.bytesToString, strOf]
  | some ad =>
    have hc : ∀ j v, (bs l)[j]? = some v → w.cell? (ad.add j) = some v := by
      intro j v hv
      rcases Nat.eq_zero_or_pos n with h0 | h0
      · rw [h0] at hlen
        obtain rfl : l = [] := List.eq_nil_of_length_eq_zero hlen
        simp [bs] at hv
      · obtain ⟨b, off, e, _, hc⟩ := hr.2 h0
        injection e with e
        subst e
        rw [at_add]
        exact hc j v hv
    rw [run_convert_bytes_string w src dst e _ _ _ hs he hd]
    refine run_bytesToString w ad n c l ?_
    have := run_loadCells_list (P := P) (w := w) ad (bs l) hc
    rwa [hr.1, Nat.mul_one] at this
theorem strOf_eq {l m : List Int} (hl : ∀ x ∈ l, 0 ≤ x ∧ x ≤ 255) (hm : ∀ x ∈ m, 0 ≤ x ∧ x ≤ 255) : ((strOf l).toList == (strOf m).toList) = decide (l = m) := by
  rw [Lib.toList_data, Lib.toList_data, strOf_list, strOf_list]
  by_cases h : l = m
  · subst h; simp
  · have : ¬ (l.map fun n => UInt8.ofNat n.toNat) = (m.map fun n => UInt8.ofNat n.toNat) := fun e => h (strOf_inj hl hm e)
    simp [h, this]

set_option maxHeartbeats 400000 in
theorem copy_any (A : Option Addr) (n c : Nat) (l : List Int) (w : World) (hr : Reads w w.heap.size 1 A n (bs l)) (hn : n ≤ 140737488355328) :
    Calls Tryz.prog 70 #[.slice A n c] w fun e w' => ∃ A' c', e = .returned (.slice A' n c') ∧ w'.ownsRow w.heap.size 5 1 (.slice A' n c') n (bs l) ∧ n ≤ c' ∧ c' ≤ maxLen ∧ Up w w' := by
  obtain ⟨i0, hi, hz0, hz1, hz2⟩ := info_parts info_u8
  go_enter Tryz.func70, Tryz.ntmps70
  go_wp2_with (at_builtin; refine wpList_app _ rfl (.tmp 3) (.tmp 4) 30 rfl w.heap.size 5 i0 _ 1 1 Tryz.underlying30 hi hz0 hz1 hz2 rfl (by decide) _ 0 0 [] rfl (World.ownsRow_lit w #[] 0 (Nat.le_refl _) (by simp [maxLen]) rfl) w.heap.size A n c (bs l) rfl (hr.alloc (Nat.le_refl _) _) (one_u8 l) (by simp [maxLen]; omega) (by omega) (by simp) ?_; intro A1 c1 w1 hown1 hg1 hle1 hmx1 hbl1; simp only [Nat.zero_add, List.nil_append] at hown1 hle1)
  go_ret
  exact ⟨A1, c1, rfl, hown1, hle1, hmx1, ((Up.refl _).alloc _).past hbl1⟩

set_option maxHeartbeats 400000 in
theorem cut_any (A : Option Addr) (n c : Nat) (l : List Int) (m : Int) (w : World) (hr : Reads w w.heap.size 1 A n (bs l)) (hn : n ≤ c) (hc : c ≤ maxLen) (hm : 0 ≤ m) (hm' : m ≤ 65536) :
    Calls Tryz.prog 28 #[.slice A n c, .int .i64 m] w fun e w' => ∃ A' n' c', e = .returned (.slice A' n' c') ∧ n' = min n m.toNat ∧ w'.ownsRow w.heap.size 5 1 (.slice A' n' c') n' (bs (l.take m.toNat)) ∧ n' ≤ c' ∧ c' ≤ maxLen ∧ Up w w' := by
  have hl : l.length = n := by simpa [bs] using hr.1
  obtain ⟨k, rfl⟩ := Int.eq_ofNat_of_zero_le hm
  have hcm : c ≤ 9223372036854775807 := by simpa [maxLen] using hc
  by_cases h : (k : Int) < n
  · have hr' : Reads w w.heap.size 1 A k (bs (l.take k)) := by
      have := hr.take (k := k) (by omega)
      rw [Nat.mul_one] at this
      rwa [bs, List.map_take]
    have hkc : k ≤ c := by omega
    go_enter Tryz.func28, Tryz.ntmps28
    go_wp2_with (go_at_call 70; refine (copy_any _ _ _ (l.take k) _ hr' (by omega)).mono ?_; rintro e w1 ⟨A1, c1, rfl, h1, h2, h3, h4⟩)
    go_ret
    exact ⟨A1, k, c1, rfl, by rw [Int.toNat_natCast]; omega, by rwa [Int.toNat_natCast], h2, h3, h4⟩
  · have hkn : n ≤ k := by omega
    go_enter Tryz.func28, Tryz.ntmps28
    go_wp2_with (go_at_call 70; refine (copy_any _ _ _ l _ hr (by omega)).mono ?_; rintro e w1 ⟨A1, c1, rfl, h1, h2, h3, h4⟩)
    go_ret
    exact ⟨A1, n, c1, rfl, by rw [Int.toNat_natCast]; omega, by rw [Int.toNat_natCast, List.take_of_length_le (by omega)]; exact h1, h2, h3, h4⟩
set_option maxHeartbeats 400000 in
theorem same_any (A A' : Option Addr) (n n' c c' B B' : Nat) (l l' : List Int) (w : World) (hr : Reads w B 1 A n (bs l)) (hr' : Reads w B' 1 A' n' (bs l')) (hl : ∀ x ∈ l, 0 ≤ x ∧ x ≤ 255) (hl' : ∀ x ∈ l', 0 ≤ x ∧ x ≤ 255) :
    Calls Tryz.prog 44 #[.slice A n c, .slice A' n' c'] w fun e w' => e = .returned (.bool (decide (l = l'))) ∧ w = w' := by
  have k1 := run_string_bytes (P := Tryz.prog) w 30 9 5 (c := c) Tryz.underlying30 Tryz.underlying5 Tryz.underlying9 hr
  have k2 := run_string_bytes (P := Tryz.prog) w 30 9 5 (c := c') Tryz.underlying30 Tryz.underlying5 Tryz.underlying9 hr'
  have he := strOf_eq hl hl'
  clear hr hr'
  go_enter Tryz.func44, Tryz.ntmps44
  go_wp2
  go_ret
  exact ⟨rfl, rfl⟩
end Go.Proofs.YtamfjgioajmnpaaGreatDoor
