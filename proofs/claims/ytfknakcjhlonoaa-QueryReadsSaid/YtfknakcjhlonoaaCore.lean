/-
  Words for memory that all walks of this seat share: a slice that reads as a list of cells, what is kept below a block, appends whose result is written out as a slice. No condition.
-/
import Derived.Test.YtfknakcjhlonoaaRows
import Derived.WalkKit
import Derived.WalkSpells
import Derived.WalkLawsBesides
import Derived.Below
import Derived.Laws.OwnMore
import Derived.Laws.BitsAllLaws
import Derived.Deep.AppendLies
import Derived.Deep.Draws
import Derived.Deep.QuietTactic
import Derived.BigQuiet
import Derived.Lib.Hide
namespace Go.Proofs.Ytfknakcjhlonoaa
open Go.RowKit

theorem block_of_add (a : Addr) (n : Nat) : (a.add n).block = a.block := by unfold Addr.add; split <;> rfl
theorem add_of_add (a : Addr) (i j : Nat) : (a.add i).add j = a.add (i + j) := by
  unfold Addr.add
  by_cases hi : i = 0 <;> by_cases hj : j = 0 <;> simp [hi, hj, Nat.add_assoc]

/-- The slice with head `A` and `n` elements of `size` cells holds the cells `xs`, all below block `B`. -/
def Reads (w : World) (B size : Nat) (A : Option Addr) (n : Nat) (xs : List Value) : Prop :=
  xs.length = n * size ∧ (0 < n → ∃ b off, A = some ⟨b, off, none⟩ ∧ b < B ∧ ∀ j u, xs[j]? = some u → w.cell? ⟨b, off + j, none⟩ = some u)

section
variable {w w' : World} {B B' size n : Nat} {A : Option Addr} {xs : List Value}
theorem Reads.none_ : Reads w B size A 0 [] := ⟨by simp, fun h => absurd h (by omega)⟩
theorem Reads.keep (h : Reads w B size A n xs) (hk : ∀ p : Addr, p.block < B → w'.cell? p = w.cell? p) : Reads w' B size A n xs :=
  ⟨h.1, fun hn => by
    obtain ⟨b, off, e, hb, hc⟩ := h.2 hn
    exact ⟨b, off, e, hb, fun j u hu => (hk ⟨b, off + j, none⟩ hb).trans (hc j u hu)⟩⟩
theorem Reads.more (h : Reads w B size A n xs) (hB : B ≤ B') : Reads w B' size A n xs :=
  ⟨h.1, fun hn => by
    obtain ⟨b, off, e, hb, hc⟩ := h.2 hn
    exact ⟨b, off, e, by omega, hc⟩⟩
theorem Reads.below (h : Reads w B size A n xs) (hb : Below B w w') : Reads w' B size A n xs := h.keep fun _ hp => hb.cell hp
theorem Reads.drew (h : Reads w B size A n xs) : Reads w.drew B size A n xs := h
theorem Reads.drewN (h : Reads w B size A n xs) (k : Nat) : Reads (w.drewN k) B size A n xs := h
theorem Reads.alloc (h : Reads w B size A n xs) (hB : B ≤ w.heap.size) (o : Obj) : Reads (w.alloc o) B size A n xs := h.keep fun p hp => World.cell?_alloc_lt w o p (by omega)
theorem Reads.take (h : Reads w B size A n xs) {k : Nat} (hk : k ≤ n) : Reads w B size A k (xs.take (k * size)) := by
  have hle : k * size ≤ n * size := Nat.mul_le_mul_right _ hk
  refine ⟨by rw [List.length_take, h.1]; omega, fun hn => ?_⟩
  obtain ⟨b, off, e, hb, hc⟩ := h.2 (by omega)
  refine ⟨b, off, e, hb, fun j u hu => hc j u ?_⟩
  rw [List.getElem?_take] at hu
  split at hu
  · exact hu
  · cases hu
theorem Reads.cut (h : Reads w B size A n xs) {k cap : Nat} (hk : k ≤ n) (hc : n ≤ cap) :
    Reads w B size (if cap = k then A else A.map (·.add (k * size))) (n - k) (xs.drop (k * size)) := by
  refine ⟨by rw [List.length_drop, h.1, Nat.sub_mul], fun hn => ?_⟩
  obtain ⟨b, off, rfl, hb, hcell⟩ := h.2 (by omega)
  rw [if_neg (by omega)]
  refine ⟨b, off + k * size, by simp [Addr.add], hb, fun j u hu => ?_⟩
  rw [Nat.add_assoc]
  exact hcell _ u (by rw [← hu, List.getElem?_drop])
/-- the i-th element's j-th cell -/
theorem Reads.at_ {b off : Nat} (h : Reads w B size (some ⟨b, off, none⟩) n xs) {j : Nat} (hj : j < n * size) : b < B ∧ ∃ u, xs[j]? = some u ∧ w.cell? ⟨b, off + j, none⟩ = some u := by
  have h0 : 0 < n := by
    rcases Nat.eq_zero_or_pos n with h0 | h0
    · rw [h0] at hj; omega
    · exact h0
  obtain ⟨b', off', e, hb, hc⟩ := h.2 h0
  injection e with e
  injection e with e1 e2 _
  subst e1; subst e2
  have hl : j < xs.length := by rw [h.1]; exact hj
  exact ⟨hb, xs[j], List.getElem?_eq_getElem hl, hc j _ (List.getElem?_eq_getElem hl)⟩
theorem Reads.form (h : Reads w B size A n xs) (hn : 0 < n) : ∃ b off, A = some ⟨b, off, none⟩ ∧ b < B := by
  obtain ⟨b, off, e, hb, _⟩ := h.2 hn
  exact ⟨b, off, e, hb⟩
theorem Reads.of_own {base : Nat} {e : TypeId} {c : Nat} (h : w.ownsRow base e size (.slice A n c) n xs) : Reads w w.heap.size size A n xs := by
  refine ⟨h.1, fun hn => ?_⟩
  obtain ⟨g, cap, hv, _, hlt⟩ := h.form hn
  have hA : A = some ⟨g, 0, none⟩ := by injection hv
  subst hA
  refine ⟨g, 0, rfl, hlt, fun j u hu => ?_⟩
  have h1 := h.cells (g := g) rfl j u hu
  have h2 : (⟨g, 0 + j, none⟩ : Addr) = (⟨g, 0, none⟩ : Addr).add j := by
    unfold Addr.add
    by_cases hj : j = 0 <;> simp [hj]
  rw [h2]
  exact h1
end

/-- what an owned row's value looks like -/
theorem own_form {w : World} {base : Nat} {e : TypeId} {size n : Nat} {v : Value} {xs : List Value} (h : w.ownsRow base e size v n xs) : ∃ A c, v = .slice A n c ∧ n ≤ c ∧ c ≤ maxLen := by
  rcases h.2 with ⟨rfl, rfl⟩ | ⟨g, cap, cur, rfl, _, _, h1, h2, _⟩
  · exact ⟨none, 0, rfl, Nat.le_refl _, by simp [maxLen]⟩
  · exact ⟨_, _, rfl, h1, h2⟩

theorem bcell {W w1 : World} (hb : Below W.heap.size W w1) : (∀ b o, b < W.heap.size → w1.cell? ⟨b, o, none⟩ = W.cell? ⟨b, o, none⟩) ∧ (∀ b o, b < W.heap.size → w1.frozen? ⟨b, o, none⟩ = W.frozen? ⟨b, o, none⟩) :=
  ⟨fun b o h => hb.cell (p := ⟨b, o, none⟩) h, fun b o h => hb.frozen (p := ⟨b, o, none⟩) h⟩
theorem below_drewN {B : Nat} {a w : World} (h : Below B a w) (n : Nat) : Below B a (w.drewN n) := ⟨h.os, h.tape, h.output, h.size, h.block⟩
theorem below_drew {B : Nat} {a w : World} (h : Below B a w) : Below B a w.drew := ⟨h.os, h.tape, h.output, h.size, h.block⟩
/-- what lay there is as it was; at most new blocks -/
def Up (w w' : World) : Prop := Below w.heap.size w w'
section
variable {a b c : World}
theorem Up.refl (a : World) : Up a a := Below.refl _ _
theorem Up.size (h : Up a b) : a.heap.size ≤ b.heap.size := Below.size h
theorem Up.trans (h : Up a b) (k : Up b c) : Up a c := Below.trans h (Below.mono k h.size)
theorem Up.alloc (h : Up a b) (o : Obj) : Up a (b.alloc o) := Below.alloc h h.size o
theorem Up.drew (h : Up a b) : Up a b.drew := below_drew h
theorem Up.drewN (h : Up a b) (n : Nat) : Up a (b.drewN n) := below_drewN h n
theorem Up.setCell (h : Up a b) {p : Addr} (hp : a.heap.size ≤ p.block) (u : Value) : Up a (b.setCell p u) := Below.setCell h hp u
theorem Up.cells (h : Up a b) : (∀ n o, n < a.heap.size → b.cell? ⟨n, o, none⟩ = a.cell? ⟨n, o, none⟩) ∧ (∀ n o, n < a.heap.size → b.frozen? ⟨n, o, none⟩ = a.frozen? ⟨n, o, none⟩) := bcell h
theorem Up.at_ (h : Up a b) (n : Nat) (hn : n < a.heap.size) : (∀ o, b.cell? ⟨n, o, none⟩ = a.cell? ⟨n, o, none⟩) ∧ (∀ o, b.frozen? ⟨n, o, none⟩ = a.frozen? ⟨n, o, none⟩) := ⟨fun o => h.cells.1 n o hn, fun o => h.cells.2 n o hn⟩
theorem Up.grown (h : Up a b) {row : Option Nat} (hg : b.grownBy c row) (hr : ∀ g, row = some g → a.heap.size ≤ g) : Up a c := Below.grown h hg h.size hr
theorem Reads.up {size n : Nat} {A : Option Addr} {xs : List Value} (h : Reads a a.heap.size size A n xs) (hu : Up a b) : Reads b b.heap.size size A n xs := (h.below hu).more hu.size
theorem own_up {base : Nat} {e : TypeId} {size n : Nat} {v : Value} {xs : List Value} (h : a.ownsRow base e size v n xs) (hu : Up a b) : b.ownsRow base e size v n xs := by
  refine ⟨h.1, ?_⟩
  rcases h.2 with h0 | ⟨g, cap, cur, e1, e2, e3, e4⟩
  · exact .inl h0
  · have hlt : g < a.heap.size := by
      rcases Nat.lt_or_ge g a.heap.size with hlt | hge
      · exact hlt
      · rw [Array.getElem?_eq_none hge] at e3; cases e3
    exact .inr ⟨g, cap, cur, e1, e2, (hu.block g hlt).trans e3, e4⟩
end

theorem ret_int {k : IntKind} {a b : Int} (h : a = b) : Ending.returned (.int k a) = .returned (.int k b) := by rw [h]
theorem ret_bool {a b : Bool} (h : a = b) : Ending.returned (.bool a) = .returned (.bool b) := by rw [h]
theorem ret_pair {k k' : IntKind} {a b a' b' : Int} (h : a = b) (h' : a' = b') : Ending.returned (.tuple #[.int k a, .int k' a']) = .returned (.tuple #[.int k b, .int k' b']) := by rw [h, h']


/-! A region that draws its order, whose operations only read and whose callees at most make new blocks: one walk in the text's order. -/
noncomputable def upOf (w W : World) : World := @ite _ (Up w W) (Classical.propDecidable _) W w
theorem up_upOf (w W : World) : Up w (upOf w W) := by
  unfold upOf
  split
  · assumption
  · exact Up.refl w
theorem upOf_of {w W : World} (h : Up w W) : upOf w W = W := by unfold upOf; rw [if_pos h]
instance worldThere : Nonempty World := ⟨default⟩
@[go_sem] theorem upOf_cell (w W : World) (n i : Nat) (hn : n < w.heap.size) : (upOf w W).cell? ⟨n, i, none⟩ = w.cell? ⟨n, i, none⟩ := (up_upOf w W).cells.1 n i hn

section
variable {P : Program}
theorem wp_region_up_lit {id : Nat} {Q : Exit → Act → World → Prop} {a : Act} {w : World} {l : List Oper} (hm : P.follows .mixedOrders = true) (hB : Region.lexB .any l.toArray = true)
    (h : wpQuiet P l.toArray (fun w' => ∃ W, w' = upOf w W) (fun a' => ∀ w', (∃ W, w' = upOf w W) → Q .normal a' w') l a) : (Code.region id l.toArray true).wp P Q a w :=
  wp_region_quiet (C := fun w' => ∃ W, w' = upOf w W) hm hB ⟨w.drew, (upOf_of (Up.refl w).drew).symm⟩ (by simpa using h)
theorem up_call {f : FuncId} {args : Array Value} {w n : World} {v : Value} (h : Calls P f args (upOf w n) fun e w' => e = .returned v ∧ Up (upOf w n) w') :
    Calls P f args (upOf w n) fun e w'' => e = .returned v ∧ ∃ W, w'' = upOf w W :=
  h.mono fun _ _ ⟨he, hu⟩ => ⟨he, _, (upOf_of ((up_upOf w n).trans hu)).symm⟩
theorem up_same {f : FuncId} {args : Array Value} {w n : World} {v : Value} (h : Calls P f args (upOf w n) fun e w' => e = .returned v ∧ upOf w n = w') :
    Calls P f args (upOf w n) fun e w'' => e = .returned v ∧ ∃ W, w'' = upOf w W :=
  h.mono fun _ _ ⟨he, hu⟩ => ⟨he, n, hu.symm⟩
end
end Go.Proofs.Ytfknakcjhlonoaa
