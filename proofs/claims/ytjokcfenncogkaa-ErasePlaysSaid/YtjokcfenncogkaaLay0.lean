/-
  Acts as they come in; a screen of which the first cells are laid. No condition.
-/
import Derived.Test.YtjokcfenncogkaaRdo
import Derived.Test.YtjokcfenncogkaaEqC
namespace Go.Proofs.Ytjokcfenncogkaa
open Go.RowKit
set_option linter.unusedVariables false
set_option linter.unusedSimpArgs false

/-- an act as it comes in -/
structure ActR where
  a : Act12
  A : Option Addr
  cap : Nat
def ActR.enc (x : ActR) : List Value := [.int .u8 x.a.d, .int .i64 x.a.n, .bool x.a.on, .int .u8 x.a.code, .int .u8 x.a.c.ch, .bool x.a.c.at_, .int .u8 x.a.c.fa, .int .u8 x.a.c.hi, .int .u8 x.a.c.co, .int .u8 x.a.c.se, .slice x.A x.a.text.length x.cap]
structure ActR.Ok (w : World) (B : Nat) (x : ActR) : Prop where
  wf : x.a.Wf
  le : x.a.text.length ≤ x.cap
  mx : x.cap ≤ maxLen
  rd : Reads w B 1 x.A x.a.text.length (bs x.a.text)
theorem ActR.Ok.keep {w w' : World} {B : Nat} {x : ActR} (h : x.Ok w B) (hb : Below B w w') : x.Ok w' B := ⟨h.wf, h.le, h.mx, h.rd.below hb⟩
def plains (l : List ActR) : List Act12 := l.map ActR.a
/-- the first j cells laid -/
def laidTo (X : Spc) (j : Nat) : Spc := { X with L := X.L.take j ++ List.replicate (X.L.length - j) Cl.zero, cur := 0 }
theorem laidTo_len (X : Spc) {j : Nat} (hj : j ≤ X.L.length) : (laidTo X j).L.length = X.L.length := by simp [laidTo]; omega
theorem laidTo_zero (X : Spc) : laidTo X 0 = { X with L := List.replicate X.L.length Cl.zero, cur := 0 } := by simp [laidTo]
theorem laidTo_all (X : Spc) : laidTo X X.L.length = { X with cur := 0 } := by simp [laidTo]
theorem laidTo_ok {X : Spc} (ok : X.Ok) {j : Nat} (hj : j ≤ X.L.length) : (laidTo X j).Ok := by
  refine ⟨ok.m2, ok.m5, ok.size, by rw [laidTo_len X hj]; exact ok.len, fun c hc => ?_, fun c hc => ?_, by simp [laidTo], by rw [laidTo_len X hj]; have := ok.big; simp [laidTo]; omega⟩
  · simp only [laidTo, List.mem_append] at hc
    rcases hc with hc | hc
    · exact ok.wf c (List.mem_of_mem_take hc)
    · rw [List.eq_of_mem_replicate hc]; exact Cl.zero_wf
  · simp only [laidTo, List.mem_append] at hc
    rcases hc with hc | hc
    · exact ok.fit c (List.mem_of_mem_take hc)
    · rw [List.eq_of_mem_replicate hc]; rfl
theorem laidTo_wrap {X : Spc} (ok : X.Ok) {i j : Nat} (hj : j < X.L.length) : (laidTo X i).wrap (j : Int) = j := by
  have h := ok.len
  show ((j : Int) % (X.r * X.c)).toNat = j
  rw [Int.emod_eq_of_lt (by omega) (by omega)]; simp
theorem laidTo_succ {X : Spc} {j : Nat} {c : Cl} (hc : X.L[j]? = some c) : (laidTo X j).L.set j c = (laidTo X (j + 1)).L := by
  obtain ⟨hlt, he⟩ := List.getElem?_eq_some_iff.1 hc
  simp only [laidTo]
  rw [show X.L.length - j = (X.L.length - (j + 1)) + 1 by omega, List.replicate_succ, List.set_append_right _ _ (by rw [List.length_take]; exact Nat.min_le_left _ _)]
  simp only [List.length_take, Nat.min_eq_left (Nat.le_of_lt hlt), Nat.sub_self, List.set_cons_zero]
  rw [List.take_succ_eq_append_getElem hlt, he]; simp
theorem laidTo_set {X : Spc} (ok : X.Ok) {j : Nat} {c : Cl} (hc : X.L[j]? = some c) : (laidTo X j).set (j : Int) c = laidTo X (j + 1) := by
  obtain ⟨hlt, he⟩ := List.getElem?_eq_some_iff.1 hc
  unfold Spc.set
  rw [laidTo_wrap ok hlt, ok.fit c (by rw [← he]; exact List.getElem_mem _), laidTo_succ hc]
  rfl
theorem laidTo_skip {X : Spc} {j : Nat} (hc : X.L[j]? = some Cl.zero) : laidTo X j = laidTo X (j + 1) := by
  obtain ⟨hlt, he⟩ := List.getElem?_eq_some_iff.1 hc
  have := laidTo_succ hc
  have h2 : (laidTo X j).L.set j Cl.zero = (laidTo X j).L := by
    have hj : (laidTo X j).L[j]? = some Cl.zero := by
      simp only [laidTo]
      rw [List.getElem?_append_right (by rw [List.length_take]; exact Nat.min_le_left _ _), List.length_take, Nat.min_eq_left (Nat.le_of_lt hlt), Nat.sub_self, List.getElem?_replicate, if_pos (by omega)]
    obtain ⟨h3, h4⟩ := List.getElem?_eq_some_iff.1 hj
    have := List.set_getElem_self h3
    rw [h4] at this
    exact this
  rw [h2] at this
  unfold laidTo at this ⊢
  simp only at this
  rw [this]
theorem place_all {X : Spc} (ok : X.Ok) : (laidTo X X.L.length).place X.cur = X := by
  rw [laidTo_all]
  unfold Spc.place
  have h := ok.len
  have : (⟨X.model, X.alt, X.r, X.c, X.L, 0⟩ : Spc).wrap X.cur = X.cur.toNat := by
    show (X.cur % (X.r * X.c)).toNat = _
    rw [Int.emod_eq_of_lt ok.cur0 (by have := ok.cur1; omega)]
  simp only [this]
  have h0 := ok.cur0
  rw [show ((X.cur.toNat : Nat) : Int) = X.cur by omega]
theorem laidTo_start {X : Spc} (ok : X.Ok) : laidTo X 0 = cleared X.model X.alt := by
  rw [laidTo_zero]
  have hs := ok.size
  have hl := ok.len
  have h1 : X.r = (dims (if X.alt then X.model else 2)).1 := by rw [← hs]
  have h2 : X.c = (dims (if X.alt then X.model else 2)).2 := by rw [← hs]
  have h3 : X.L.length = ((dims (if X.alt then X.model else 2)).1 * (dims (if X.alt then X.model else 2)).2).toNat := by rw [← h1, ← h2]; omega
  unfold cleared
  rw [← h1, ← h2] at *
  rw [h3]
theorem acts_succ (X : Spc) (l : List Act12) (j : Nat) : acts X l (j + 1) = match l[j]? with | some a => (acts X l j).act a | none => acts X l j := by
  unfold acts
  cases h : l[j]? with
  | none =>
    have := List.getElem?_eq_none_iff.1 h
    simp only
    rw [List.take_of_length_le (by omega), List.take_of_length_le this]
  | some a =>
    obtain ⟨hlt, he⟩ := List.getElem?_eq_some_iff.1 h
    rw [List.take_succ_eq_append_getElem hlt, List.foldl_append, he]
    rfl
theorem acts_model (X : Spc) (l : List Act12) (n : Nat) : (acts X l n).model = X.model := by
  unfold acts
  generalize l.take n = m
  induction m generalizing X with
  | nil => rfl
  | cons a m ih => rw [List.foldl_cons, ih, act_model]
/-- the screen that such acts make -/
def layS (m : Int) (l : List Act12) : Spc := acts (newS (2 + m % 4)) l 30
theorem layS_ok {m : Int} (h0 : 0 ≤ m) {l : List Act12} (h : ∀ a ∈ l, a.Wf) : (layS m l).Ok := acts_ok (newS_ok (by omega) (by omega)) h 30
end Go.Proofs.Ytjokcfenncogkaa
