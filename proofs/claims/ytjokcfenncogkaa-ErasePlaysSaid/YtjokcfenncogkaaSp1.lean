/-
  A screen as plain data, and how the program's lies in memory. No condition.
-/
import Derived.Test.YtjokcfenncogkaaSpan
import Derived.Test.YtjokcfenncogkaaAttr1
import Derived.Test.YtjokcfenncogkaaMixT
namespace Go.Proofs.Ytjokcfenncogkaa
open Go.RowKit
set_option linter.unusedVariables false
set_option linter.unusedSimpArgs false

/-- an attribute's bits that stand -/
def six05 (v : Int) : Int := fbits (fP v) (fN v) (fD v) (fM v)
theorem six05_and : ∀ k : Fin 256, bits .and .u8 (k.val : Int) 61 = six05 k.val := by decide +kernel
theorem and61 (v : Int) (h0 : 0 ≤ v) (h1 : v ≤ 255) : bits .and .u8 v 61 = six05 v := by
  have h := six05_and ⟨v.toNat, by omega⟩
  rwa [show (((⟨v.toNat, by omega⟩ : Fin 256).val : Nat) : Int) = v from by simp; omega] at h
theorem six05_tab : ∀ k : Fin 256, 0 ≤ six05 k.val ∧ six05 k.val ≤ 63 ∧ six05 (six05 k.val) = six05 k.val := by decide +kernel
theorem six05_bd (v : Int) (h : 0 ≤ v ∧ v ≤ 255) : 0 ≤ six05 v ∧ six05 v ≤ 255 ∧ six05 (six05 v) = six05 v := by
  have h := six05_tab ⟨v.toNat, by omega⟩
  rw [show (((⟨v.toNat, by omega⟩ : Fin 256).val : Nat) : Int) = v from by simp; omega] at h
  exact ⟨h.1, by omega, h.2.2⟩

/-- a cell -/
structure Cl where
  ch : Int
  at_ : Bool
  fa : Int
  hi : Int
  co : Int
  se : Int
theorem Cl.ext_ {a b : Cl} (h1 : a.ch = b.ch) (h2 : a.at_ = b.at_) (h3 : a.fa = b.fa) (h4 : a.hi = b.hi) (h5 : a.co = b.co) (h6 : a.se = b.se) : a = b := by
  cases a; cases b; simp_all
noncomputable instance : DecidableEq Cl := fun a b => Classical.propDecidable _
def Cl.zero : Cl := ⟨0, false, 0, 0, 0, 0⟩
def Cl.enc (c : Cl) : List Value := [.int .u8 c.ch, .bool c.at_, .int .u8 c.fa, .int .u8 c.hi, .int .u8 c.co, .int .u8 c.se]
def Cl.val (c : Cl) : Value := .agg #[.int .u8 c.ch, .bool c.at_, .int .u8 c.fa, .int .u8 c.hi, .int .u8 c.co, .int .u8 c.se]
def isB (x : Int) : Prop := 0 ≤ x ∧ x ≤ 255
structure Cl.Wf (c : Cl) : Prop where
  ch : isB c.ch
  fa : isB c.fa
  hi : isB c.hi
  co : isB c.co
  se : isB c.se
def Cl.fit (c : Cl) : Cl := if c.at_ then { c with ch := 0, fa := six05 c.fa } else { c with fa := 0 }
theorem Cl.fit_at (c : Cl) : c.fit.at_ = c.at_ := by unfold Cl.fit; split <;> rfl
theorem Cl.fit_wf {c : Cl} (h : c.Wf) : c.fit.Wf := by
  have h6 := six05_bd _ h.fa
  unfold Cl.fit
  split
  · exact ⟨by simp [isB], ⟨h6.1, h6.2.1⟩, h.hi, h.co, h.se⟩
  · exact ⟨h.ch, by simp [isB], h.hi, h.co, h.se⟩
theorem Cl.fit_fit {c : Cl} (h : c.Wf) : c.fit.fit = c.fit := by
  have h6 := six05_bd _ h.fa
  unfold Cl.fit
  by_cases e : c.at_
  · simp [e, h6.2.2]
  · simp [e]
theorem Cl.zero_wf : Cl.zero.Wf := ⟨by simp [isB, Cl.zero], by simp [isB, Cl.zero], by simp [isB, Cl.zero], by simp [isB, Cl.zero], by simp [isB, Cl.zero]⟩
theorem Cl.zero_fit : Cl.zero.fit = Cl.zero := rfl
def cnt (c : Cl) : Nat := if c.at_ then 1 else 0
def attrsN (L : List Cl) : Nat := (L.map cnt).sum

/-- a screen -/
structure Spc where
  model : Int
  alt : Bool
  r : Int
  c : Int
  L : List Cl
  cur : Int
def dims (m : Int) : Int × Int := if m = 2 then (24, 80) else if m = 3 then (32, 80) else if m = 4 then (43, 80) else (27, 132)
structure Spc.Ok (X : Spc) : Prop where
  m2 : 2 ≤ X.model
  m5 : X.model ≤ 5
  size : (X.r, X.c) = dims (if X.alt then X.model else 2)
  len : (X.L.length : Int) = X.r * X.c
  wf : ∀ c ∈ X.L, c.Wf
  fit : ∀ c ∈ X.L, c.fit = c
  cur0 : 0 ≤ X.cur
  cur1 : X.cur < X.L.length
theorem dims_valid (m : Int) : validB (dims m).1 (dims m).2 = true ∧ 80 ≤ (dims m).2 ∧ 1920 ≤ (dims m).1 * (dims m).2 := by
  unfold dims
  repeat' split
  all_goals exact ⟨by decide, by decide, by decide⟩
theorem Spc.Ok.valid {X : Spc} (h : X.Ok) : validB X.r X.c = true := by
  have := dims_valid (if X.alt then X.model else 2)
  rw [← h.size] at this; exact this.1
theorem Spc.Ok.big {X : Spc} (h : X.Ok) : 1920 ≤ X.L.length := by
  have h1 := dims_valid (if X.alt then X.model else 2)
  have h2 := h.len
  rw [← h.size] at h1
  have := h1.2.2
  simp only at this
  omega
theorem Spc.Ok.small {X : Spc} (h : X.Ok) : X.L.length ≤ 3564 := by
  have h1 := valid_facts h.valid
  have h2 := h.len
  omega
/-- the place of a number -/
def Spc.wrap (X : Spc) (n : Int) : Nat := (n % (X.r * X.c)).toNat
theorem Spc.Ok.wrap {X : Spc} (h : X.Ok) (n : Int) : n % (X.r * X.c) = (X.wrap n : Int) ∧ X.wrap n < X.L.length := by
  have h1 := h.big
  have h2 := mod_facts n (X.r * X.c) (by rw [← h.len]; omega)
  unfold Spc.wrap
  have := h.len
  omega
def Spc.at_ (X : Spc) (n : Int) : Cl := X.L.getD (X.wrap n) Cl.zero
def Spc.set (X : Spc) (n : Int) (c : Cl) : Spc := { X with L := X.L.set (X.wrap n) c.fit }
def putC (c : Cl) (code : Int) : Cl := if c.at_ then c else { c with ch := code }
def Spc.put (X : Spc) (n : Int) (code : Int) : Spc := { X with L := X.L.set (X.wrap n) (putC (X.at_ n) code) }
def Spc.place (X : Spc) (n : Int) : Spc := { X with cur := X.wrap n }
def Spc.clear (X : Spc) (a : Bool) : Spc :=
  { X with alt := a, r := (dims (if a then X.model else 2)).1, c := (dims (if a then X.model else 2)).2, L := List.replicate ((dims (if a then X.model else 2)).1 * (dims (if a then X.model else 2)).2).toNat Cl.zero, cur := 0 }
def newS (m : Int) : Spc := (⟨m, false, 0, 0, [], 0⟩ : Spc).clear false

/-- a cell's six in memory -/
structure CellAt (w : World) (g o : Nat) (c : Cl) : Prop where
  h0 : w.cell? ⟨g, o, none⟩ = some (.int .u8 c.ch)
  h1 : w.cell? ⟨g, o + 1, none⟩ = some (.bool c.at_)
  h2 : w.cell? ⟨g, o + 2, none⟩ = some (.int .u8 c.fa)
  h3 : w.cell? ⟨g, o + 3, none⟩ = some (.int .u8 c.hi)
  h4 : w.cell? ⟨g, o + 4, none⟩ = some (.int .u8 c.co)
  h5 : w.cell? ⟨g, o + 5, none⟩ = some (.int .u8 c.se)
def FreeAt (w : World) (g : Nat) : Prop := ∀ o, w.frozen? ⟨g, o, none⟩ = false
def CellsAt (w : World) (g : Nat) (L : List Cl) : Prop := FreeAt w g ∧ g < w.heap.size ∧ ∀ i c, L[i]? = some c → CellAt w g (i * 6) c
/-- the program's space -/
structure SAt (w : World) (p g : Nat) (X : Spc) : Prop where
  ne : p ≠ g
  lt : p < w.heap.size
  free : FreeAt w p
  h0 : w.cell? ⟨p, 0, none⟩ = some (.int .i64 X.model)
  h1 : w.cell? ⟨p, 1, none⟩ = some (.bool X.alt)
  h2 : w.cell? ⟨p, 2, none⟩ = some (.int .i64 X.r)
  h3 : w.cell? ⟨p, 3, none⟩ = some (.int .i64 X.c)
  h4 : ∃ cap, X.L.length ≤ cap ∧ cap ≤ maxLen ∧ w.cell? ⟨p, 4, none⟩ = some (.slice (some ⟨g, 0, none⟩) X.L.length cap)
  h5 : w.cell? ⟨p, 5, none⟩ = some (.int .i64 X.cur)
  h6 : w.cell? ⟨p, 6, none⟩ = some (.int .i64 (attrsN X.L : Int))
  cells : CellsAt w g X.L

theorem CellAt.keep {w w' : World} {g o : Nat} {c : Cl} (h : CellAt w g o c) (hk : ∀ o, w'.cell? ⟨g, o, none⟩ = w.cell? ⟨g, o, none⟩) : CellAt w' g o c :=
  ⟨(hk _).trans h.h0, (hk _).trans h.h1, (hk _).trans h.h2, (hk _).trans h.h3, (hk _).trans h.h4, (hk _).trans h.h5⟩
theorem FreeAt.keep {w w' : World} {g : Nat} (h : FreeAt w g) (hk : w'.heap[g]? = w.heap[g]?) : FreeAt w' g := fun o =>
  (World.frozen?_of_block (a := ⟨g, o, none⟩) (show w'.heap[g]? = w.heap[g]? from hk)).trans (h o)
theorem FreeAt.set {w : World} {g : Nat} (h : FreeAt w g) (a : Addr) (v : Value) : FreeAt (w.setCell a v) g := fun o => by rw [World.frozen?_setCell]; exact h o
theorem heap_lt {w w' : World} {g : Nat} (hk : w'.heap[g]? = w.heap[g]?) (h : g < w.heap.size) : g < w'.heap.size := by
  rw [Array.getElem?_eq_getElem h] at hk
  exact (Array.getElem?_eq_some_iff.1 hk).1
theorem CellsAt.keep {w w' : World} {g : Nat} {L : List Cl} (h : CellsAt w g L) (hk : w'.heap[g]? = w.heap[g]?) : CellsAt w' g L :=
  ⟨h.1.keep hk, heap_lt hk h.2.1, fun i c hi => (h.2.2 i c hi).keep fun o => World.cell?_of_block (show w'.heap[g]? = w.heap[g]? from hk)⟩
theorem SAt.keep {w w' : World} {p g : Nat} {X : Spc} (h : SAt w p g X) (hp : w'.heap[p]? = w.heap[p]?) (hg : w'.heap[g]? = w.heap[g]?) : SAt w' p g X := by
  have hc : ∀ o, w'.cell? ⟨p, o, none⟩ = w.cell? ⟨p, o, none⟩ := fun o => World.cell?_of_block (show w'.heap[p]? = w.heap[p]? from hp)
  obtain ⟨cap, c1, c2, c3⟩ := h.h4
  exact ⟨h.ne, heap_lt hp h.lt, h.free.keep hp, (hc _).trans h.h0, (hc _).trans h.h1, (hc _).trans h.h2, (hc _).trans h.h3, ⟨cap, c1, c2, (hc _).trans c3⟩, (hc _).trans h.h5, (hc _).trans h.h6, h.cells.keep hg⟩
theorem SAt.up {w w' : World} {p g : Nat} {X : Spc} (h : SAt w p g X) (hu : Up w w') : SAt w' p g X := h.keep (hu.block p h.lt) (hu.block g h.cells.2.1)
theorem SAt.held {w w' : World} {p g : Nat} {X : Spc} {E : Nat → Prop} (h : SAt w p g X) (hk : Keep E w w') (hp : ¬ E p) (hg : ¬ E g) : SAt w' p g X := h.keep (hk.block p h.lt hp) (hk.block g h.cells.2.1 hg)
/-! stores -/
theorem ad_ne2 {b x y : Nat} (h : x ≠ y) : (⟨b, x, none⟩ : Addr) ≠ ⟨b, y, none⟩ := fun e => h (by injection e)
theorem CellAt.far {w : World} {g o : Nat} {c : Cl} (h : CellAt w g o c) {a : Nat} (v : Value) (ha : ∀ j, j < 6 → a ≠ o + j) : CellAt (w.setCell ⟨g, a, none⟩ v) g o c :=
  ⟨by rw [World.cell?_setCell_other (h := ad_ne2 (show a ≠ o from ha 0 (by omega)))]; exact h.h0, by rw [World.cell?_setCell_other (h := ad_ne2 (ha 1 (by omega)))]; exact h.h1, by rw [World.cell?_setCell_other (h := ad_ne2 (ha 2 (by omega)))]; exact h.h2,
   by rw [World.cell?_setCell_other (h := ad_ne2 (ha 3 (by omega)))]; exact h.h3, by rw [World.cell?_setCell_other (h := ad_ne2 (ha 4 (by omega)))]; exact h.h4, by rw [World.cell?_setCell_other (h := ad_ne2 (ha 5 (by omega)))]; exact h.h5⟩
theorem CellAt.other {w : World} {g o : Nat} {c : Cl} (h : CellAt w g o c) {b : Nat} (a : Nat) (v : Value) (hb : b ≠ g) : CellAt (w.setCell ⟨b, a, none⟩ v) g o c :=
  h.keep fun o => World.cell?_setCell_other w ⟨b, a, none⟩ ⟨g, o, none⟩ v (fun e => hb (by injection e))
/-- the world with a cell stored -/
def store6 (w : World) (g o : Nat) (c : Cl) : World :=
  (((((w.setCell ⟨g, o, none⟩ (.int .u8 c.ch)).setCell ⟨g, o + 1, none⟩ (.bool c.at_)).setCell ⟨g, o + 2, none⟩ (.int .u8 c.fa)).setCell ⟨g, o + 3, none⟩ (.int .u8 c.hi)).setCell ⟨g, o + 4, none⟩ (.int .u8 c.co)).setCell ⟨g, o + 5, none⟩ (.int .u8 c.se)
theorem store6_same {w : World} {g o : Nat} {d : Cl} (h : CellAt w g o d) (c : Cl) : CellAt (store6 w g o c) g o c := by
  have n01 : (⟨g, o + 1, none⟩ : Addr) ≠ ⟨g, o, none⟩ := ad_ne2 (by omega)
  have nn : ∀ i j : Nat, i ≠ j → (⟨g, o + i, none⟩ : Addr) ≠ ⟨g, o + j, none⟩ := fun i j e => ad_ne2 (by omega)
  have n0 : ∀ i : Nat, i ≠ 0 → (⟨g, o + i, none⟩ : Addr) ≠ ⟨g, o, none⟩ := fun i e => ad_ne2 (by omega)
  have n0' : ∀ i : Nat, i ≠ 0 → (⟨g, o, none⟩ : Addr) ≠ ⟨g, o + i, none⟩ := fun i e => ad_ne2 (by omega)
  refine ⟨?_, ?_, ?_, ?_, ?_, ?_⟩
  · unfold store6
    rw [World.cell?_setCell_other (h := n0 5 (by omega)), World.cell?_setCell_other (h := n0 4 (by omega)), World.cell?_setCell_other (h := n0 3 (by omega)), World.cell?_setCell_other (h := n0 2 (by omega)), World.cell?_setCell_other (h := n0 1 (by omega)), World.cell?_setCell_same (h := h.h0)]
  · unfold store6
    rw [World.cell?_setCell_other (h := nn 5 1 (by omega)), World.cell?_setCell_other (h := nn 4 1 (by omega)), World.cell?_setCell_other (h := nn 3 1 (by omega)), World.cell?_setCell_other (h := nn 2 1 (by omega)), World.cell?_setCell_same (u := .bool d.at_)]
    rw [World.cell?_setCell_other (h := n0' 1 (by omega))]; exact h.h1
  · unfold store6
    rw [World.cell?_setCell_other (h := nn 5 2 (by omega)), World.cell?_setCell_other (h := nn 4 2 (by omega)), World.cell?_setCell_other (h := nn 3 2 (by omega)), World.cell?_setCell_same (u := .int .u8 d.fa)]
    rw [World.cell?_setCell_other (h := nn 1 2 (by omega)), World.cell?_setCell_other (h := n0' 2 (by omega))]; exact h.h2
  · unfold store6
    rw [World.cell?_setCell_other (h := nn 5 3 (by omega)), World.cell?_setCell_other (h := nn 4 3 (by omega)), World.cell?_setCell_same (u := .int .u8 d.hi)]
    rw [World.cell?_setCell_other (h := nn 2 3 (by omega)), World.cell?_setCell_other (h := nn 1 3 (by omega)), World.cell?_setCell_other (h := n0' 3 (by omega))]; exact h.h3
  · unfold store6
    rw [World.cell?_setCell_other (h := nn 5 4 (by omega)), World.cell?_setCell_same (u := .int .u8 d.co)]
    rw [World.cell?_setCell_other (h := nn 3 4 (by omega)), World.cell?_setCell_other (h := nn 2 4 (by omega)), World.cell?_setCell_other (h := nn 1 4 (by omega)), World.cell?_setCell_other (h := n0' 4 (by omega))]; exact h.h4
  · unfold store6
    rw [World.cell?_setCell_same (u := .int .u8 d.se)]
    rw [World.cell?_setCell_other (h := nn 4 5 (by omega)), World.cell?_setCell_other (h := nn 3 5 (by omega)), World.cell?_setCell_other (h := nn 2 5 (by omega)), World.cell?_setCell_other (h := nn 1 5 (by omega)), World.cell?_setCell_other (h := n0' 5 (by omega))]; exact h.h5
theorem store6_free {w : World} {g o : Nat} {c : Cl} {b : Nat} (h : FreeAt w b) : FreeAt (store6 w g o c) b := (((((h.set _ _).set _ _).set _ _).set _ _).set _ _).set _ _
theorem store6_keep (w : World) (g o : Nat) (c : Cl) : Keep (fun k => k = g) w (store6 w g o c) :=
  (((((Keep.setCell (Keep.refl (fun k => k = g) w) (p := ⟨g, o, none⟩) (.inl rfl) _).setCell (p := ⟨g, o + 1, none⟩) (.inl rfl) _).setCell (p := ⟨g, o + 2, none⟩) (.inl rfl) _).setCell (p := ⟨g, o + 3, none⟩) (.inl rfl) _).setCell (p := ⟨g, o + 4, none⟩) (.inl rfl) _).setCell (p := ⟨g, o + 5, none⟩) (.inl rfl) _
theorem store6_size (w : World) (g o : Nat) (c : Cl) : (store6 w g o c).heap.size = w.heap.size := by simp [store6, World.setCell]
theorem store6_far {w : World} {g o : Nat} {c d : Cl} {i : Nat} (h : CellAt w g i d) (hi : i + 6 ≤ o ∨ o + 6 ≤ i) : CellAt (store6 w g o c) g i d :=
  (((((h.far _ (by omega)).far _ (by omega)).far _ (by omega)).far _ (by omega)).far _ (by omega)).far _ (by omega)
theorem CellsAt.store {w : World} {g : Nat} {L : List Cl} (h : CellsAt w g L) {k : Nat} (hk : k < L.length) (c : Cl) : CellsAt (store6 w g (k * 6) c) g (L.set k c) := by
  refine ⟨store6_free h.1, by rw [store6_size]; exact h.2.1, fun i d hi => ?_⟩
  rw [List.getElem?_set] at hi
  by_cases e : k = i
  · subst e
    rw [if_pos rfl, if_pos hk] at hi
    injection hi with hi
    subst hi
    exact store6_same (h.2.2 k _ (List.getElem?_eq_getElem hk)) _
  · rw [if_neg e] at hi
    exact store6_far (h.2.2 i d hi) (by omega)
/-- one of its six alone: the character -/
theorem CellsAt.put {w : World} {g : Nat} {L : List Cl} (h : CellsAt w g L) {k : Nat} {d : Cl} (hk : L[k]? = some d) (x : Int) : CellsAt (w.setCell ⟨g, k * 6, none⟩ (.int .u8 x)) g (L.set k { d with ch := x }) := by
  have hlt : k < L.length := (List.getElem?_eq_some_iff.1 hk).1
  refine ⟨h.1.set _ _, by simp [World.setCell]; exact h.2.1, fun i e hi => ?_⟩
  rw [List.getElem?_set] at hi
  by_cases e : k = i
  · subst e
    rw [if_pos rfl, if_pos hlt] at hi
    injection hi with hi
    subst hi
    obtain ⟨h0, h1, h2, h3, h4, h5⟩ := h.2.2 k _ hk
    exact ⟨World.cell?_setCell_same (h := h0) .., by rw [World.cell?_setCell_other (h := ad_ne2 (by omega))]; exact h1, by rw [World.cell?_setCell_other (h := ad_ne2 (by omega))]; exact h2, by rw [World.cell?_setCell_other (h := ad_ne2 (by omega))]; exact h3,
      by rw [World.cell?_setCell_other (h := ad_ne2 (by omega))]; exact h4, by rw [World.cell?_setCell_other (h := ad_ne2 (by omega))]; exact h5⟩
  · rw [if_neg e] at hi
    exact (h.2.2 i _ hi).far _ (by omega)
theorem CellsAt.other {w : World} {g : Nat} {L : List Cl} (h : CellsAt w g L) {b : Nat} (a : Nat) (v : Value) (hb : b ≠ g) : CellsAt (w.setCell ⟨b, a, none⟩ v) g L :=
  h.keep (Below.heap_setCell w ⟨b, a, none⟩ v g (Ne.symm hb))
theorem attrsN_set {L : List Cl} {k : Nat} {d : Cl} (hk : L[k]? = some d) (c : Cl) : (attrsN (L.set k c) : Int) = attrsN L + ((cnt c : Int) - (cnt d : Int)) := by
  unfold attrsN
  induction L generalizing k with
  | nil => simp at hk
  | cons x L ih =>
    cases k with
    | zero =>
      simp at hk; subst hk
      simp; omega
    | succ k =>
      simp only [List.getElem?_cons_succ] at hk
      have := ih hk
      simp only [List.set_cons_succ, List.map_cons, List.sum_cons]
      omega
theorem attrsN_le (L : List Cl) : attrsN L ≤ L.length := by
  unfold attrsN
  induction L with
  | nil => simp
  | cons x L ih =>
    simp only [List.map_cons, List.sum_cons, List.length_cons]
    have : cnt x ≤ 1 := by unfold cnt; split <;> omega
    omega
end Go.Proofs.Ytjokcfenncogkaa
