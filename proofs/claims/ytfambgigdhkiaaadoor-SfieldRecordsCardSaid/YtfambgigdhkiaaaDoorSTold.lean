/-
  sfield's told: is it an act that says the same? No condition.
-/
import Derived.Test.YtfambgigdhkiaaaDoorSData
namespace Go.Proofs.YtfambgigdhkiaaaDoor
open Go.RowKit
set_option linter.unusedVariables false
set_option linter.unusedSimpArgs false

set_option maxHeartbeats 400000 in
theorem equal_sl {B B' : Nat} {A A' : Option Addr} {n n' c c' : Nat} {l l' : List Int} {w : World} (h : Sl B w A n c l) (h' : Sl B' w A' n' c' l') :
    Calls Tryd.prog 49 #[.slice A n c, .slice A' n' c'] w fun e w' => e = .returned (.bool (decide (l = l'))) ∧ w = w' := by
  have k1 := run_string_bytes (P := Tryd.prog) w 23 9 5 (c := c) Tryd.underlying23 Tryd.underlying5 Tryd.underlying9 h.rd
  have k2 := run_string_bytes (P := Tryd.prog) w 23 9 5 (c := c') Tryd.underlying23 Tryd.underlying5 Tryd.underlying9 h'.rd
  have he := strOf_eq h.bytes h'.bytes
  clear h h'
  go_enter Tryd.func49, Tryd.ntmps49
  go_wp2
  go_ret
  exact ⟨rfl, rfl⟩
/-- does b say what a says? -/
def toldB (a b : PAct) : Bool := if a.kind = 2 then (a.req == b.req) && decide (a.codes = b.codes) else if a.kind = 3 then a.cmd == b.cmd else if a.kind = 5 then a.mode == b.mode else if a.kind = 9 then decide (a.rec_ = b.rec_) else true

set_option maxHeartbeats 1600000 in
theorem told3 {k cm m rq k' cm' m' rq' : Int} {al al' : Bool} {A1 A2 A3 A4 : Option Addr} {n1 n2 n3 n4 c1 c2 c3 c4 : Nat} {w : World} (hk : k = 3) :
    Calls Tryd.prog 40 #[.agg #[.int .i64 k, .int .i64 cm, .int .i64 m, .bool al, .int .u8 rq, .slice A1 n1 c1, .slice A2 n2 c2], .agg #[.int .i64 k', .int .i64 cm', .int .i64 m', .bool al', .int .u8 rq', .slice A3 n3 c3, .slice A4 n4 c4]] w fun e w' => e = .returned (.bool (cm == cm')) ∧ Up w w' := by
  subst hk
  go_enter Tryd.func40, Tryd.ntmps40
  go_wp2
  go_ret
  exact ⟨ret_bool (by first | rfl | simp), by (repeat (first | with_reducible exact Up.refl _ | with_reducible refine Up.alloc ?_ _ | with_reducible refine Up.drew ?_ | with_reducible refine Up.drewN ?_ _ | with_reducible refine Up.setCell ?_ (by (try simp) <;> omega) _ | with_reducible assumption | with_reducible refine Up.trans ?_ (by assumption)))⟩

set_option maxHeartbeats 1600000 in
theorem told5 {k cm m rq k' cm' m' rq' : Int} {al al' : Bool} {A1 A2 A3 A4 : Option Addr} {n1 n2 n3 n4 c1 c2 c3 c4 : Nat} {w : World} (hk : k = 5) :
    Calls Tryd.prog 40 #[.agg #[.int .i64 k, .int .i64 cm, .int .i64 m, .bool al, .int .u8 rq, .slice A1 n1 c1, .slice A2 n2 c2], .agg #[.int .i64 k', .int .i64 cm', .int .i64 m', .bool al', .int .u8 rq', .slice A3 n3 c3, .slice A4 n4 c4]] w fun e w' => e = .returned (.bool (m == m')) ∧ Up w w' := by
  subst hk
  go_enter Tryd.func40, Tryd.ntmps40
  go_wp2
  go_ret
  exact ⟨ret_bool (by first | rfl | simp), by (repeat (first | with_reducible exact Up.refl _ | with_reducible refine Up.alloc ?_ _ | with_reducible refine Up.drew ?_ | with_reducible refine Up.drewN ?_ _ | with_reducible refine Up.setCell ?_ (by (try simp) <;> omega) _ | with_reducible assumption | with_reducible refine Up.trans ?_ (by assumption)))⟩

set_option maxHeartbeats 1600000 in
theorem told0 {k cm m rq k' cm' m' rq' : Int} {al al' : Bool} {A1 A2 A3 A4 : Option Addr} {n1 n2 n3 n4 c1 c2 c3 c4 : Nat} {w : World} (e2 : (k == 2) = false) (e3 : (k == 3) = false) (e5 : (k == 5) = false) (e9 : (k == 9) = false) :
    Calls Tryd.prog 40 #[.agg #[.int .i64 k, .int .i64 cm, .int .i64 m, .bool al, .int .u8 rq, .slice A1 n1 c1, .slice A2 n2 c2], .agg #[.int .i64 k', .int .i64 cm', .int .i64 m', .bool al', .int .u8 rq', .slice A3 n3 c3, .slice A4 n4 c4]] w fun e w' => e = .returned (.bool true) ∧ Up w w' := by
  go_enter Tryd.func40, Tryd.ntmps40
  go_wp2
  go_ret
  exact ⟨rfl, by (repeat (first | with_reducible exact Up.refl _ | with_reducible refine Up.alloc ?_ _ | with_reducible refine Up.drew ?_ | with_reducible refine Up.drewN ?_ _ | with_reducible refine Up.setCell ?_ (by (try simp) <;> omega) _ | with_reducible assumption | with_reducible refine Up.trans ?_ (by assumption)))⟩

set_option maxHeartbeats 1600000 in
theorem told9 {k cm m rq k' cm' m' rq' : Int} {al al' : Bool} {A1 A2 A3 A4 : Option Addr} {n1 n2 n3 n4 c1 c2 c3 c4 : Nat} {w : World} {B B' : Nat} {l l' : List Int} (hk : k = 9) (h : Sl B w A2 n2 c2 l) (h' : Sl B' w A4 n4 c4 l') :
    Calls Tryd.prog 40 #[.agg #[.int .i64 k, .int .i64 cm, .int .i64 m, .bool al, .int .u8 rq, .slice A1 n1 c1, .slice A2 n2 c2], .agg #[.int .i64 k', .int .i64 cm', .int .i64 m', .bool al', .int .u8 rq', .slice A3 n3 c3, .slice A4 n4 c4]] w fun e w' => e = .returned (.bool (decide (l = l'))) ∧ Up w w' := by
  subst hk
  have HE := Lib.hid (fun w' (hu : Up w w') => equal_sl (h.up hu) (h'.up hu))
  obtain ⟨t, ht⟩ : ∃ t, decide (l = l') = t := ⟨_, rfl⟩
  rw [ht] at HE ⊢
  clear h h' ht
  go_enter Tryd.func40, Tryd.ntmps40
  go_wp2_with (go_at_call 49; refine (HE.out _ (by (repeat (first | with_reducible exact Up.refl _ | with_reducible refine Up.alloc ?_ _ | with_reducible refine Up.drew ?_ | with_reducible refine Up.drewN ?_ _ | with_reducible refine Up.setCell ?_ (by (try simp) <;> omega) _ | with_reducible assumption | with_reducible refine Up.trans ?_ (by assumption))))).mono ?_; rintro e w' ⟨rfl, rfl⟩)
  go_ret
  exact ⟨rfl, by (repeat (first | with_reducible exact Up.refl _ | with_reducible refine Up.alloc ?_ _ | with_reducible refine Up.drew ?_ | with_reducible refine Up.drewN ?_ _ | with_reducible refine Up.setCell ?_ (by (try simp) <;> omega) _ | with_reducible assumption | with_reducible refine Up.trans ?_ (by assumption)))⟩

set_option maxHeartbeats 1600000 in
theorem told2 {k cm m rq k' cm' m' rq' : Int} {al al' : Bool} {A1 A2 A3 A4 : Option Addr} {n1 n2 n3 n4 c1 c2 c3 c4 : Nat} {w : World} {B B' : Nat} {l l' : List Int} (hk : k = 2) (h : Sl B w A1 n1 c1 l) (h' : Sl B' w A3 n3 c3 l') :
    Calls Tryd.prog 40 #[.agg #[.int .i64 k, .int .i64 cm, .int .i64 m, .bool al, .int .u8 rq, .slice A1 n1 c1, .slice A2 n2 c2], .agg #[.int .i64 k', .int .i64 cm', .int .i64 m', .bool al', .int .u8 rq', .slice A3 n3 c3, .slice A4 n4 c4]] w fun e w' => e = .returned (.bool ((rq == rq') && decide (l = l'))) ∧ Up w w' := by
  subst hk
  have HE := Lib.hid (fun w' (hu : Up w w') => equal_sl (h.up hu) (h'.up hu))
  obtain ⟨t, ht⟩ : ∃ t, decide (l = l') = t := ⟨_, rfl⟩
  rw [ht] at HE ⊢
  clear h h' ht
  cases hq : (rq == rq')
  all_goals
    go_enter Tryd.func40, Tryd.ntmps40
    go_wp2_with (go_at_call 49; refine (HE.out _ (by (repeat (first | with_reducible exact Up.refl _ | with_reducible refine Up.alloc ?_ _ | with_reducible refine Up.drew ?_ | with_reducible refine Up.drewN ?_ _ | with_reducible refine Up.setCell ?_ (by (try simp) <;> omega) _ | with_reducible assumption | with_reducible refine Up.trans ?_ (by assumption))))).mono ?_; rintro e w' ⟨rfl, rfl⟩)
    go_ret
    exact ⟨ret_bool (by simp), by (repeat (first | with_reducible exact Up.refl _ | with_reducible refine Up.alloc ?_ _ | with_reducible refine Up.drew ?_ | with_reducible refine Up.drewN ?_ _ | with_reducible refine Up.setCell ?_ (by (try simp) <;> omega) _ | with_reducible assumption | with_reducible refine Up.trans ?_ (by assumption)))⟩

theorem told_is {a b : PAct} {A1 A2 A3 A4 : Option Addr} {B1 B2 B3 B4 c1 c2 c3 c4 : Nat} {w : World} (h1 : Sl B1 w A1 a.codes.length c1 a.codes) (h2 : Sl B2 w A2 a.rec_.length c2 a.rec_) (h3 : Sl B3 w A3 b.codes.length c3 b.codes) (h4 : Sl B4 w A4 b.rec_.length c4 b.rec_) :
    Calls Tryd.prog 40 #[actV a A1 c1 A2 c2, actV b A3 c3 A4 c4] w fun e w' => e = .returned (.bool (toldB a b)) ∧ Up w w' := by
  unfold actV toldB
  by_cases k2 : a.kind = 2
  · rw [if_pos k2]; exact told2 k2 h1 h3
  rw [if_neg k2]
  by_cases k3 : a.kind = 3
  · rw [if_pos k3]; exact told3 k3
  rw [if_neg k3]
  by_cases k5 : a.kind = 5
  · rw [if_pos k5]; exact told5 k5
  rw [if_neg k5]
  by_cases k9 : a.kind = 9
  · rw [if_pos k9]; exact told9 k9 h2 h4
  rw [if_neg k9]
  exact told0 (beq_eq_false_iff_ne.2 k2) (beq_eq_false_iff_ne.2 k3) (beq_eq_false_iff_ne.2 k5) (beq_eq_false_iff_ne.2 k9)
end Go.Proofs.YtfambgigdhkiaaaDoor
