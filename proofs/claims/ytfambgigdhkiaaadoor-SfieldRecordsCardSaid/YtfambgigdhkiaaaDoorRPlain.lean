/-
  The reference's Plain: an act with the fields of its kind alone. No condition.
-/
import Derived.Test.YtfambgigdhkiaaaDoorRSame2
import Derived.Test.YtfambgigdhkiaaaDoorSField
namespace Go.Proofs.YtfambgigdhkiaaaDoor
open Go.RowKit
set_option linter.unusedVariables false
set_option linter.unusedSimpArgs false

/-- with the fields of its kind alone -/
def plainOf (a : PAct) : PAct :=
  if a.kind = 2 then ⟨2, 0, 0, false, a.req, a.codes, []⟩ else if a.kind = 3 then ⟨3, a.cmd, 0, false, 0, [], []⟩ else if a.kind = 4 then ⟨4, 0, 0, a.alt, 0, [], []⟩
  else if a.kind = 5 then ⟨5, 0, a.mode, false, 0, [], []⟩ else if a.kind = 9 then ⟨9, 0, 0, false, 0, [], a.rec_⟩ else ⟨a.kind, 0, 0, false, 0, [], []⟩

set_option maxHeartbeats 1600000 in
theorem plain2 {k cm m rq : Int} {al : Bool} {A1 A2 : Option Addr} {n1 n2 c1 c2 : Nat} {w : World} (hk : k = 2) :
    Calls Tryd.prog 30 #[.agg #[.int .i64 k, .int .i64 cm, .int .i64 m, .bool al, .int .u8 rq, .slice A1 n1 c1, .slice A2 n2 c2]] w fun e w' => e = .returned (.agg #[.int .i64 2, .int .i64 0, .int .i64 0, .bool false, .int .u8 rq, .slice A1 n1 c1, .slice none 0 0]) ∧ Up w w' := by
  subst hk
  go_enter Tryd.func30, Tryd.ntmps30
  go_wp2
  go_region
  all_goals
    go_wp2
    exact bodyPost_ret (v := .agg #[.int .i64 2, .int .i64 0, .int .i64 0, .bool false, .int .u8 rq, .slice A1 n1 c1, .slice none 0 0]) (by simp [results, Tryd.results30, go_sem]) rfl ⟨rfl, by (repeat (first | with_reducible exact Up.refl _ | with_reducible refine Up.alloc ?_ _ | with_reducible refine Up.drew ?_ | with_reducible refine Up.drewN ?_ _ | with_reducible refine Up.setCell ?_ (by (try simp) <;> omega) _ | with_reducible assumption | with_reducible refine Up.trans ?_ (by assumption)))⟩

set_option maxHeartbeats 1600000 in
theorem plain3 {k cm m rq : Int} {al : Bool} {A1 A2 : Option Addr} {n1 n2 c1 c2 : Nat} {w : World} (hk : k = 3) :
    Calls Tryd.prog 30 #[.agg #[.int .i64 k, .int .i64 cm, .int .i64 m, .bool al, .int .u8 rq, .slice A1 n1 c1, .slice A2 n2 c2]] w fun e w' => e = .returned (.agg #[.int .i64 3, .int .i64 cm, .int .i64 0, .bool false, .int .u8 0, .slice none 0 0, .slice none 0 0]) ∧ Up w w' := by
  subst hk
  go_enter Tryd.func30, Tryd.ntmps30
  go_wp2
  exact bodyPost_ret (v := .agg #[.int .i64 3, .int .i64 cm, .int .i64 0, .bool false, .int .u8 0, .slice none 0 0, .slice none 0 0]) (by simp [results, Tryd.results30, go_sem]) rfl ⟨rfl, by (repeat (first | with_reducible exact Up.refl _ | with_reducible refine Up.alloc ?_ _ | with_reducible refine Up.drew ?_ | with_reducible refine Up.drewN ?_ _ | with_reducible refine Up.setCell ?_ (by (try simp) <;> omega) _ | with_reducible assumption | with_reducible refine Up.trans ?_ (by assumption)))⟩

set_option maxHeartbeats 1600000 in
theorem plain4 {k cm m rq : Int} {al : Bool} {A1 A2 : Option Addr} {n1 n2 c1 c2 : Nat} {w : World} (hk : k = 4) :
    Calls Tryd.prog 30 #[.agg #[.int .i64 k, .int .i64 cm, .int .i64 m, .bool al, .int .u8 rq, .slice A1 n1 c1, .slice A2 n2 c2]] w fun e w' => e = .returned (.agg #[.int .i64 4, .int .i64 0, .int .i64 0, .bool al, .int .u8 0, .slice none 0 0, .slice none 0 0]) ∧ Up w w' := by
  subst hk
  go_enter Tryd.func30, Tryd.ntmps30
  go_wp2
  exact bodyPost_ret (v := .agg #[.int .i64 4, .int .i64 0, .int .i64 0, .bool al, .int .u8 0, .slice none 0 0, .slice none 0 0]) (by simp [results, Tryd.results30, go_sem]) rfl ⟨rfl, by (repeat (first | with_reducible exact Up.refl _ | with_reducible refine Up.alloc ?_ _ | with_reducible refine Up.drew ?_ | with_reducible refine Up.drewN ?_ _ | with_reducible refine Up.setCell ?_ (by (try simp) <;> omega) _ | with_reducible assumption | with_reducible refine Up.trans ?_ (by assumption)))⟩

set_option maxHeartbeats 1600000 in
theorem plain5 {k cm m rq : Int} {al : Bool} {A1 A2 : Option Addr} {n1 n2 c1 c2 : Nat} {w : World} (hk : k = 5) :
    Calls Tryd.prog 30 #[.agg #[.int .i64 k, .int .i64 cm, .int .i64 m, .bool al, .int .u8 rq, .slice A1 n1 c1, .slice A2 n2 c2]] w fun e w' => e = .returned (.agg #[.int .i64 5, .int .i64 0, .int .i64 m, .bool false, .int .u8 0, .slice none 0 0, .slice none 0 0]) ∧ Up w w' := by
  subst hk
  go_enter Tryd.func30, Tryd.ntmps30
  go_wp2
  exact bodyPost_ret (v := .agg #[.int .i64 5, .int .i64 0, .int .i64 m, .bool false, .int .u8 0, .slice none 0 0, .slice none 0 0]) (by simp [results, Tryd.results30, go_sem]) rfl ⟨rfl, by (repeat (first | with_reducible exact Up.refl _ | with_reducible refine Up.alloc ?_ _ | with_reducible refine Up.drew ?_ | with_reducible refine Up.drewN ?_ _ | with_reducible refine Up.setCell ?_ (by (try simp) <;> omega) _ | with_reducible assumption | with_reducible refine Up.trans ?_ (by assumption)))⟩

set_option maxHeartbeats 1600000 in
theorem plain9 {k cm m rq : Int} {al : Bool} {A1 A2 : Option Addr} {n1 n2 c1 c2 : Nat} {w : World} (hk : k = 9) :
    Calls Tryd.prog 30 #[.agg #[.int .i64 k, .int .i64 cm, .int .i64 m, .bool al, .int .u8 rq, .slice A1 n1 c1, .slice A2 n2 c2]] w fun e w' => e = .returned (.agg #[.int .i64 9, .int .i64 0, .int .i64 0, .bool false, .int .u8 0, .slice none 0 0, .slice A2 n2 c2]) ∧ Up w w' := by
  subst hk
  go_enter Tryd.func30, Tryd.ntmps30
  go_wp2
  exact bodyPost_ret (v := .agg #[.int .i64 9, .int .i64 0, .int .i64 0, .bool false, .int .u8 0, .slice none 0 0, .slice A2 n2 c2]) (by simp [results, Tryd.results30, go_sem]) rfl ⟨rfl, by (repeat (first | with_reducible exact Up.refl _ | with_reducible refine Up.alloc ?_ _ | with_reducible refine Up.drew ?_ | with_reducible refine Up.drewN ?_ _ | with_reducible refine Up.setCell ?_ (by (try simp) <;> omega) _ | with_reducible assumption | with_reducible refine Up.trans ?_ (by assumption)))⟩

set_option maxHeartbeats 1600000 in
theorem plain0 {k cm m rq : Int} {al : Bool} {A1 A2 : Option Addr} {n1 n2 c1 c2 : Nat} {w : World} (e2 : (k == 2) = false) (e3 : (k == 3) = false) (e4 : (k == 4) = false) (e5 : (k == 5) = false) (e9 : (k == 9) = false) :
    Calls Tryd.prog 30 #[.agg #[.int .i64 k, .int .i64 cm, .int .i64 m, .bool al, .int .u8 rq, .slice A1 n1 c1, .slice A2 n2 c2]] w fun e w' => e = .returned (.agg #[.int .i64 k, .int .i64 0, .int .i64 0, .bool false, .int .u8 0, .slice none 0 0, .slice none 0 0]) ∧ Up w w' := by
  go_enter Tryd.func30, Tryd.ntmps30
  go_wp2
  exact bodyPost_ret (v := .agg #[.int .i64 k, .int .i64 0, .int .i64 0, .bool false, .int .u8 0, .slice none 0 0, .slice none 0 0]) (by simp [results, Tryd.results30, go_sem]) rfl ⟨rfl, by (repeat (first | with_reducible exact Up.refl _ | with_reducible refine Up.alloc ?_ _ | with_reducible refine Up.drew ?_ | with_reducible refine Up.drewN ?_ _ | with_reducible refine Up.setCell ?_ (by (try simp) <;> omega) _ | with_reducible assumption | with_reducible refine Up.trans ?_ (by assumption)))⟩

theorem plain_is {a : PAct} {A1 A2 : Option Addr} {B1 B2 c1 c2 : Nat} {w : World} (h1 : Sl B1 w A1 a.codes.length c1 a.codes) (h2 : Sl B2 w A2 a.rec_.length c2 a.rec_) :
    Calls Tryd.prog 30 #[actV a A1 c1 A2 c2] w fun e w' => (∃ A1' c1' A2' c2', e = .returned (actV (plainOf a) A1' c1' A2' c2') ∧ Sl 0 w' A1' (plainOf a).codes.length c1' (plainOf a).codes ∧ Sl 0 w' A2' (plainOf a).rec_.length c2' (plainOf a).rec_) ∧ Up w w' := by
  unfold plainOf
  by_cases k2 : a.kind = 2
  · rw [if_pos k2]
    refine (plain2 k2).mono ?_
    rintro e w' ⟨rfl, hu⟩
    exact ⟨⟨A1, c1, none, 0, rfl, (h1.up hu).low (Nat.zero_le _), Sl.none_⟩, hu⟩
  rw [if_neg k2]
  by_cases k3 : a.kind = 3
  · rw [if_pos k3]
    refine (plain3 k3).mono ?_
    rintro e w' ⟨rfl, hu⟩
    exact ⟨⟨none, 0, none, 0, rfl, Sl.none_, Sl.none_⟩, hu⟩
  rw [if_neg k3]
  by_cases k4 : a.kind = 4
  · rw [if_pos k4]
    refine (plain4 k4).mono ?_
    rintro e w' ⟨rfl, hu⟩
    exact ⟨⟨none, 0, none, 0, rfl, Sl.none_, Sl.none_⟩, hu⟩
  rw [if_neg k4]
  by_cases k5 : a.kind = 5
  · rw [if_pos k5]
    refine (plain5 k5).mono ?_
    rintro e w' ⟨rfl, hu⟩
    exact ⟨⟨none, 0, none, 0, rfl, Sl.none_, Sl.none_⟩, hu⟩
  rw [if_neg k5]
  by_cases k9 : a.kind = 9
  · rw [if_pos k9]
    refine (plain9 k9).mono ?_
    rintro e w' ⟨rfl, hu⟩
    exact ⟨⟨none, 0, A2, c2, rfl, Sl.none_, (h2.up hu).low (Nat.zero_le _)⟩, hu⟩
  rw [if_neg k9]
  refine (plain0 (beq_eq_false_iff_ne.2 k2) (beq_eq_false_iff_ne.2 k3) (beq_eq_false_iff_ne.2 k4) (beq_eq_false_iff_ne.2 k5) (beq_eq_false_iff_ne.2 k9)).mono ?_
  rintro e w' ⟨rfl, hu⟩
  exact ⟨⟨none, 0, none, 0, rfl, Sl.none_, Sl.none_⟩, hu⟩
/-- are two acts alike? -/
def sameB (a b : PAct) : Bool := (a.kind == b.kind) && (a.cmd == b.cmd) && (a.mode == b.mode) && (a.alt == b.alt) && (a.req == b.req) && decide (a.codes = b.codes) && decide (a.rec_ = b.rec_)
theorem sameB_iff {a b : PAct} : sameB a b = true ↔ a = b := by
  obtain ⟨k, cm, m, al, rq, cs, rc⟩ := a
  obtain ⟨k', cm', m', al', rq', cs', rc'⟩ := b
  simp [sameB]
  constructor
  · rintro ⟨⟨⟨⟨⟨⟨rfl, rfl⟩, rfl⟩, rfl⟩, rfl⟩, rfl⟩, rfl⟩; simp
  · intro h; simp [h]
theorem partOf_cases (a : PAct) (p : List Int) (x : Int) : partOf a p x = (a, 0) ∨ partOf a p x = (zAct, 1) := by
  unfold partOf
  split
  · exact .inl rfl
  · exact .inr rfl
/-- whatever a field asks for is plain -/
theorem plain_act (id : Int) (p : List Int) : plainOf (actOf id p).1 = (actOf id p).1 := by
  have hz : plainOf zAct = zAct := rfl
  have hp : ∀ (a : PAct) (x : Int), plainOf a = a → plainOf (partOf a p x).1 = (partOf a p x).1 := fun a x h => by
    rcases partOf_cases a p x with e | e <;> rw [e]
    · exact h
    · exact hz
  unfold actOf
  split
  · unfold readsOf
    split
    · exact hz
    · split
      · split
        · exact hp _ _ rfl
        · exact hz
      · split
        · split
          · exact hp _ _ rfl
          · exact hz
        · split
          · split
            · exact hp _ _ rfl
            · exact hz
          · exact hz
  · split
    · unfold erasesOf
      split
      · rfl
      · exact hz
    · split
      · unfold setsOf
        split
        · exact hz
        · exact hp _ _ rfl
      · split
        · unfold partsOf
          split
          · exact hz
          · exact hp _ _ rfl
        · split
          · unfold partsOf
            split
            · exact hz
            · exact hp _ _ rfl
          · split
            · unfold partsOf
              split
              · exact hz
              · exact hp _ _ rfl
            · split
              · unfold outsOf
                split
                · exact hz
                · split
                  · split
                    · exact hp _ _ rfl
                    · exact hz
                  · exact hz
              · exact hz
end Go.Proofs.YtfambgigdhkiaaaDoor
