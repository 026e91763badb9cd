/-
  Acts upon a screen, as plain data. No condition.
-/
import Derived.Test.YtjokcfenncogkaaRs4
namespace Go.Proofs.Ytjokcfenncogkaa
open Go.RowKit
set_option linter.unusedVariables false
set_option linter.unusedSimpArgs false

theorem Spc.Ok.mem {X : Spc} (ok : X.Ok) (n : Int) : X.at_ n ∈ X.L := by
  have hw := (ok.wrap n).2
  unfold Spc.at_; rw [List.getD, List.getElem?_eq_getElem hw]; exact List.getElem_mem _
theorem Spc.Ok.setL {X : Spc} (ok : X.Ok) (k : Nat) {c : Cl} (hc : c.Wf) (hf : c.fit = c) : (⟨X.model, X.alt, X.r, X.c, X.L.set k c, X.cur⟩ : Spc).Ok := by
  refine ⟨ok.m2, ok.m5, ok.size, by simp; exact ok.len, fun d hd => ?_, fun d hd => ?_, ok.cur0, by simp; exact ok.cur1⟩
  · rcases List.mem_or_eq_of_mem_set hd with h | h
    · exact ok.wf d h
    · rw [h]; exact hc
  · rcases List.mem_or_eq_of_mem_set hd with h | h
    · exact ok.fit d h
    · rw [h]; exact hf
theorem putC_ok {c : Cl} (hc : c.Wf) (hf : c.fit = c) {x : Int} (hx : isB x) : (putC c x).Wf ∧ (putC c x).fit = putC c x := by
  unfold putC
  by_cases e : c.at_
  · rw [if_pos e]; exact ⟨hc, hf⟩
  · rw [if_neg e]
    refine ⟨⟨hx, hc.fa, hc.hi, hc.co, hc.se⟩, ?_⟩
    unfold Cl.fit at hf ⊢
    rw [if_neg e] at hf
    rw [if_neg e]
    rw [← hf]
theorem Spc.Ok.put {X : Spc} (ok : X.Ok) (n : Int) {x : Int} (hx : isB x) : (X.put n x).Ok := by
  have h := putC_ok (ok.at_wf n) (ok.fit _ (ok.mem n)) hx
  exact ok.setL _ h.1 h.2
theorem Spc.Ok.set {X : Spc} (ok : X.Ok) (n : Int) {c : Cl} (hc : c.Wf) : (X.set n c).Ok := ok.setL _ (Cl.fit_wf hc) (Cl.fit_fit hc)
theorem Spc.Ok.place {X : Spc} (ok : X.Ok) (n : Int) : (X.place n).Ok := ⟨ok.m2, ok.m5, ok.size, ok.len, ok.wf, ok.fit, by simp [Spc.place], by have := (ok.wrap n).2; simp [Spc.place]; omega⟩
theorem Spc.put_wrap (X : Spc) (n x m : Int) : (X.put n x).wrap m = X.wrap m := rfl
theorem Spc.put_len (X : Spc) (n x : Int) : (X.put n x).L.length = X.L.length := by simp [Spc.put]
theorem Spc.set_len (X : Spc) (n : Int) (c : Cl) : (X.set n c).L.length = X.L.length := by simp [Spc.set]
/-- a text from a place on: the first j of it, 200 at most -/
def textTo (X : Spc) (n : Int) (l : List Int) : Nat → Spc
  | 0 => X
  | j + 1 => if j < 200 then (textTo X n l j).put ((X.wrap n : Int) + (j : Int)) (l.getD j 0) else textTo X n l j
theorem textTo_ok {X : Spc} (ok : X.Ok) (n : Int) {l : List Int} (hl : ∀ x ∈ l, isB x) : ∀ j, (textTo X n l j).Ok
  | 0 => ok
  | j + 1 => by
    unfold textTo
    split
    · refine (textTo_ok ok n hl j).put _ ?_
      rcases Nat.lt_or_ge j l.length with h | h
      · rw [List.getD, List.getElem?_eq_getElem h]; exact hl _ (List.getElem_mem _)
      · rw [List.getD, List.getElem?_eq_none h]; simp [isB]
    · exact textTo_ok ok n hl j
theorem textTo_wrap (X : Spc) (n : Int) (l : List Int) (m : Int) : ∀ j, (textTo X n l j).wrap m = X.wrap m
  | 0 => rfl
  | j + 1 => by
    unfold textTo
    split
    · rw [Spc.put_wrap]; exact textTo_wrap X n l m j
    · exact textTo_wrap X n l m j
/-- an act -/
structure Act12 where
  d : Int
  n : Int
  on : Bool
  code : Int
  c : Cl
  text : List Int
structure Act12.Wf (a : Act12) : Prop where
  d : isB a.d
  code : isB a.code
  c : a.c.Wf
  text : ∀ x ∈ a.text, isB x
def Spc.act (X : Spc) (a : Act12) : Spc :=
  if a.d % 6 = 0 then X.clear a.on else if a.d % 6 = 1 then X.place a.n else if a.d % 6 = 2 then X.put a.n a.code else if a.d % 6 = 3 then X.set a.n ⟨0, true, a.code, 0, 0, 0⟩ else if a.d % 6 = 4 then X.set a.n a.c else textTo X a.n a.text a.text.length
theorem Spc.Ok.act {X : Spc} (ok : X.Ok) {a : Act12} (h : a.Wf) : (X.act a).Ok := by
  unfold Spc.act
  have h0 : isB 0 := by simp [isB]
  repeat' split
  · exact ok.clear _
  · exact ok.place _
  · exact ok.put _ h.code
  · exact ok.set _ ⟨h0, h.code, h0, h0, h0⟩
  · exact ok.set _ h.c
  · exact textTo_ok ok _ h.text _
theorem act_model (X : Spc) (a : Act12) : (X.act a).model = X.model := by
  have ht : ∀ j, (textTo X a.n a.text j).model = X.model := by
    intro j
    induction j with
    | zero => rfl
    | succ j ih =>
      unfold textTo
      split
      · exact ih
      · exact ih
  unfold Spc.act
  repeat' split
  all_goals first | rfl | exact ht _
/-- some acts, n at most -/
def acts (X : Spc) (l : List Act12) (n : Nat) : Spc := (l.take n).foldl Spc.act X
theorem acts_ok {X : Spc} (ok : X.Ok) {l : List Act12} (h : ∀ a ∈ l, a.Wf) (n : Nat) : (acts X l n).Ok := by
  have : ∀ (l : List Act12) (X : Spc), X.Ok → (∀ a ∈ l, a.Wf) → (l.foldl Spc.act X).Ok := by
    intro l
    induction l with
    | nil => intro X h _; exact h
    | cons a l ih => intro X h hl; exact ih _ (h.act (hl a (by simp))) (fun b hb => hl b (by simp [hb]))
  exact this _ _ ok (fun a ha => h a (List.mem_of_mem_take ha))
theorem newS_ok {m : Int} (h2 : 2 ≤ m) (h5 : m ≤ 5) : (newS m).Ok := cleared_ok h2 h5 false
end Go.Proofs.Ytjokcfenncogkaa
