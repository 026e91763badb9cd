/-
  What sfield's Act makes of a field: the parts. Condition: write's table lies as the row lists it.
-/
import Derived.Test.YtfambgigdhkiaaaDoorClone
import Derived.Test.YtfambgigdhkiaaaDoorCmdR
namespace Go.Proofs.YtfambgigdhkiaaaDoor
open Go.RowKit
set_option linter.unusedVariables false
set_option linter.unusedSimpArgs false

/-- an act: what it is, and its two texts -/
structure PAct where
  kind : Int
  cmd : Int
  mode : Int
  alt : Bool
  req : Int
  codes : List Int
  rec_ : List Int
def zAct : PAct := ⟨0, 0, 0, false, 0, [], []⟩
def actV (a : PAct) (A1 : Option Addr) (c1 : Nat) (A2 : Option Addr) (c2 : Nat) : Value :=
  .agg #[.int .i64 a.kind, .int .i64 a.cmd, .int .i64 a.mode, .bool a.alt, .int .u8 a.req, .slice A1 a.codes.length c1, .slice A2 a.rec_.length c2]
/-- a call handed back that act and that error, its texts new -/
def ActRet (w : World) (r : PAct × Int) (e : Ending) (w' : World) : Prop :=
  ∃ A1 c1 A2 c2, e = .returned (.tuple #[actV r.1 A1 c1 A2 c2, .int .i64 r.2]) ∧ Sl w.heap.size w' A1 r.1.codes.length c1 r.1.codes ∧ Sl w.heap.size w' A2 r.1.rec_.length c2 r.1.rec_ ∧ Up w w'
/-- of partition x alone -/
def partOf (a : PAct) (p : List Int) (x : Int) : PAct × Int := if p.getD 0 0 = x then (a, 0) else (zAct, 1)
def readsOf (p : List Int) : PAct × Int :=
  if p.length < 2 then (zAct, 4)
  else if p.getD 1 0 = 2 then if p.length = 2 then partOf ⟨1, 0, 0, false, 0, [], []⟩ p 255 else (zAct, 4)
  else if p.getD 1 0 = 3 then if 3 ≤ p.length ∧ (p.getD 2 0 = 0 ∨ p.getD 2 0 = 64 ∨ p.getD 2 0 = 128) then partOf ⟨2, 0, 0, false, p.getD 2 0, p.drop 3, []⟩ p 255 else (zAct, 4)
  else match cmdOf (p.getD 1 0) with
    | some c => if 5 ≤ c ∧ c ≤ 7 ∧ p.length = 2 then partOf ⟨3, c, 0, false, 0, [], []⟩ p 0 else (zAct, 4)
    | none => (zAct, 4)
def erasesOf (p : List Int) : PAct × Int :=
  if p.length = 1 ∧ (p.getD 0 0 = 0 ∨ p.getD 0 0 = 128) then (⟨4, 0, 0, decide (p.getD 0 0 = 128), 0, [], []⟩, 0) else (zAct, 4)
def setsOf (p : List Int) : PAct × Int :=
  if p.length < 2 ∨ 2 < p.getD 1 0 ∨ (p.getD 1 0 < 2 ∧ 2 < p.length) then (zAct, 4) else partOf ⟨5, 0, p.getD 1 0, false, 0, [], []⟩ p 0
def partsOf (k : Int) (p : List Int) : PAct × Int :=
  if p.length < 1 ∨ (k ≠ 6 ∧ 1 < p.length) then (zAct, 4) else partOf ⟨k, 0, 0, false, 0, [], []⟩ p 0
def outsOf (p : List Int) : PAct × Int :=
  if p.length < 2 then (zAct, 4)
  else match cmdOf (p.getD 1 0) with
    | some c => if c ≤ 4 then partOf ⟨9, 0, 0, false, 0, [], p.drop 1⟩ p 0 else (zAct, 4)
    | none => (zAct, 4)
/-- what a field asks for -/
def actOf (id : Int) (p : List Int) : PAct × Int :=
  if id = 1 then readsOf p else if id = 3 then erasesOf p else if id = 9 then setsOf p
  else if id = 12 then partsOf 6 p else if id = 13 then partsOf 7 p else if id = 14 then partsOf 8 p
  else if id = 64 then outsOf p else (zAct, 10)

theorem ActRet.zero {w w' : World} {x : Int} {e : Ending} (he : e = .returned (.tuple #[actV zAct none 0 none 0, .int .i64 x])) (h : Up w w') : ActRet w (zAct, x) e w' :=
  ⟨none, 0, none, 0, he, Sl.none_, Sl.none_, h⟩
theorem ActRet.plain {w w' : World} {x : Int} {e : Ending} {k c m : Int} {b : Bool} {r : Int} (he : e = .returned (.tuple #[actV ⟨k, c, m, b, r, [], []⟩ none 0 none 0, .int .i64 x])) (h : Up w w') : ActRet w (⟨k, c, m, b, r, [], []⟩, x) e w' :=
  ⟨none, 0, none, 0, he, Sl.none_, Sl.none_, h⟩

set_option maxHeartbeats 800000 in
theorem part_yes {k cm m rq : Int} {al : Bool} {A1 A2 A : Option Addr} {n1 c1 n2 c2 n c b off : Nat} {w : World} (hA : A = some ⟨b, off, none⟩) (hn : 0 < n) (hb : b < w.heap.size) (hc : w.cell? ⟨b, off, none⟩ = some (.int .u8 0)) :
    Calls Tryd.prog 46 #[.agg #[.int .i64 k, .int .i64 cm, .int .i64 m, .bool al, .int .u8 rq, .slice A1 n1 c1, .slice A2 n2 c2], .slice A n c] w fun e w' =>
      e = .returned (.tuple #[.agg #[.int .i64 k, .int .i64 cm, .int .i64 m, .bool al, .int .u8 rq, .slice A1 n1 c1, .slice A2 n2 c2], .int .i64 0]) ∧ Up w w' := by
  subst hA
  have hn' : (0 : Int) < n := by omega
  go_enter Tryd.func46, Tryd.ntmps46
  go_wp2
  exact bodyPost_ret (v := _) (by simp [results, Tryd.results46, go_sem]) rfl ⟨rfl, by (repeat (first | with_reducible exact Up.refl _ | with_reducible refine Up.alloc ?_ _ | with_reducible refine Up.drew ?_ | with_reducible refine Up.drewN ?_ _ | with_reducible refine Up.setCell ?_ (by (try simp) <;> omega) _ | with_reducible assumption | with_reducible refine Up.trans ?_ (by assumption)))⟩
set_option maxHeartbeats 800000 in
theorem part_no {k cm m rq x : Int} {al : Bool} {A1 A2 A : Option Addr} {n1 c1 n2 c2 n c b off : Nat} {w : World} (hA : A = some ⟨b, off, none⟩) (hn : 0 < n) (hb : b < w.heap.size) (hc : w.cell? ⟨b, off, none⟩ = some (.int .u8 x)) (hx : (x == 0) = false) :
    Calls Tryd.prog 46 #[.agg #[.int .i64 k, .int .i64 cm, .int .i64 m, .bool al, .int .u8 rq, .slice A1 n1 c1, .slice A2 n2 c2], .slice A n c] w fun e w' =>
      e = .returned (.tuple #[.agg #[.int .i64 0, .int .i64 0, .int .i64 0, .bool false, .int .u8 0, .slice none 0 0, .slice none 0 0], .int .i64 1]) ∧ Up w w' := by
  subst hA
  have hn' : (0 : Int) < n := by omega
  go_enter Tryd.func46, Tryd.ntmps46
  go_wp2
  exact bodyPost_ret (v := .tuple #[actV zAct none 0 none 0, .int .i64 1]) (by simp [results, Tryd.results46, go_sem, actV, zAct]) rfl ⟨rfl, by (repeat (first | with_reducible exact Up.refl _ | with_reducible refine Up.alloc ?_ _ | with_reducible refine Up.drew ?_ | with_reducible refine Up.drewN ?_ _ | with_reducible refine Up.setCell ?_ (by (try simp) <;> omega) _ | with_reducible assumption | with_reducible refine Up.trans ?_ (by assumption)))⟩
set_option maxHeartbeats 1600000 in
theorem erases_is {B : Nat} {A : Option Addr} {n c : Nat} {l : List Int} {w : World} (h : Sl B w A n c l) :
    Calls Tryd.prog 34 #[.slice A n c] w (ActRet w (erasesOf l)) := by
  have hl := h.len
  by_cases h1 : n = 1
  · obtain ⟨b, off, rfl, hb⟩ := h.form (by omega)
    have hc := h.cell (i := 0) (by omega)
    have hx := h.byte (i := 0)
    obtain ⟨x, hxe⟩ : ∃ x, l.getD 0 0 = x := ⟨_, rfl⟩
    rw [hxe] at hc hx
    rw [Nat.add_zero] at hc
    have HE := Lib.hid hxe
    have HL := Lib.hid (show l.length = 1 by omega)
    clear hl h hxe
    subst h1
    by_cases g0 : x = 0
    · subst g0
      have hr := Lib.hid (show erasesOf l = (⟨4, 0, 0, false, 0, [], []⟩, 0) by unfold erasesOf; rw [HL.out, HE.out, if_pos ⟨rfl, .inl rfl⟩]; rfl)
      go_enter Tryd.func34, Tryd.ntmps34
      go_wp2
      rw [hr.out]
      exact bodyPost_ret (v := .tuple #[actV ⟨4, 0, 0, false, 0, [], []⟩ none 0 none 0, .int .i64 0]) (by simp [results, Tryd.results34, go_sem, actV]) rfl (ActRet.plain rfl (by (repeat (first | with_reducible exact Up.refl _ | with_reducible refine Up.alloc ?_ _ | with_reducible refine Up.drew ?_ | with_reducible refine Up.drewN ?_ _ | with_reducible refine Up.setCell ?_ (by (try simp) <;> omega) _ | with_reducible assumption | with_reducible refine Up.trans ?_ (by assumption)))))
    · by_cases g1 : x = 128
      · subst g1
        have hr := Lib.hid (show erasesOf l = (⟨4, 0, 0, true, 0, [], []⟩, 0) by unfold erasesOf; rw [HL.out, HE.out, if_pos ⟨rfl, .inr rfl⟩]; rfl)
        go_enter Tryd.func34, Tryd.ntmps34
        go_wp2
        rw [hr.out]
        exact bodyPost_ret (v := .tuple #[actV ⟨4, 0, 0, true, 0, [], []⟩ none 0 none 0, .int .i64 0]) (by simp [results, Tryd.results34, go_sem, actV]) rfl (ActRet.plain rfl (by (repeat (first | with_reducible exact Up.refl _ | with_reducible refine Up.alloc ?_ _ | with_reducible refine Up.drew ?_ | with_reducible refine Up.drewN ?_ _ | with_reducible refine Up.setCell ?_ (by (try simp) <;> omega) _ | with_reducible assumption | with_reducible refine Up.trans ?_ (by assumption)))))
      · have hr := Lib.hid (show erasesOf l = (zAct, 4) by unfold erasesOf; rw [HE.out, if_neg (by omega)])
        have e0 : (x != 0) = true := by simp; omega
        have e1 : (x != 128) = true := by simp; omega
        clear g0 g1
        go_enter Tryd.func34, Tryd.ntmps34
        go_wp2
        rw [hr.out]
        exact bodyPost_ret (v := .tuple #[actV zAct none 0 none 0, .int .i64 4]) (by simp [results, Tryd.results34, go_sem, actV, zAct]) rfl (ActRet.zero rfl (by (repeat (first | with_reducible exact Up.refl _ | with_reducible refine Up.alloc ?_ _ | with_reducible refine Up.drew ?_ | with_reducible refine Up.drewN ?_ _ | with_reducible refine Up.setCell ?_ (by (try simp) <;> omega) _ | with_reducible assumption | with_reducible refine Up.trans ?_ (by assumption)))))
  · have hr := Lib.hid (show erasesOf l = (zAct, 4) by unfold erasesOf; rw [if_neg (by omega)])
    have e0 : ((n : Int) != 1) = true := by simp; omega
    clear h hl h1
    go_enter Tryd.func34, Tryd.ntmps34
    go_wp2
    rw [hr.out]
    exact bodyPost_ret (v := .tuple #[actV zAct none 0 none 0, .int .i64 4]) (by simp [results, Tryd.results34, go_sem, actV, zAct]) rfl (ActRet.zero rfl (by (repeat (first | with_reducible exact Up.refl _ | with_reducible refine Up.alloc ?_ _ | with_reducible refine Up.drew ?_ | with_reducible refine Up.drewN ?_ _ | with_reducible refine Up.setCell ?_ (by (try simp) <;> omega) _ | with_reducible assumption | with_reducible refine Up.trans ?_ (by assumption)))))
end Go.Proofs.YtfambgigdhkiaaaDoor
