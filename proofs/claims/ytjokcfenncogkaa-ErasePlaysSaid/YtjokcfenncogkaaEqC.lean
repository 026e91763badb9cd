/-
  When two cells are alike. No condition.
-/
import Derived.Test.YtjokcfenncogkaaSp1
namespace Go.Proofs.Ytjokcfenncogkaa
open Go.RowKit
set_option linter.unusedVariables false
set_option linter.unusedSimpArgs false

set_option maxHeartbeats 1600000 in
theorem eqC0 (p0 p2 p3 p4 p5 q0 q2 q3 q4 q5 : Int) (p1 q1 : Bool) (w : World) :
    (Op.equalIn 10000 25 (.agg #[.int .u8 p0, .bool p1, .int .u8 p2, .int .u8 p3, .int .u8 p4, .int .u8 p5]) (.agg #[.int .u8 q0, .bool q1, .int .u8 q2, .int .u8 q3, .int .u8 q4, .int .u8 q5])).run Try.prog w =
      .ok (p0 == q0 && (p1 == q1 && (p2 == q2 && (p3 == q3 && (p4 == q4 && p5 == q5))))) w := by
  have u5 := Try.underlying5
  have u4 := Try.underlying4
  have a5 := Try.isAgg5
  have a4 := Try.isAgg4
  have z5 := Try.sizeOf5
  have z4 := Try.sizeOf4
  rw [show (10000 : Nat) = 9999 + 1 from rfl, Op.equalIn]
  simp only [Sem.run_bind, run_underlying Try.underlying25, Result.andThen_ok]
  go_simp
  by_cases e0 : p0 = q0 <;> by_cases e1 : p1 = q1 <;> by_cases e2 : p2 = q2 <;> by_cases e3 : p3 = q3 <;> by_cases e4 : p4 = q4 <;> by_cases e5 : p5 = q5 <;> simp [e0, e1, e2, e3, e4, e5]
theorem eqC {c d : Cl} {b : Bool} (hb : decide (c = d) = b) (w : World) :
    (Op.equalIn 10000 25 (.agg #[.int .u8 c.ch, .bool c.at_, .int .u8 c.fa, .int .u8 c.hi, .int .u8 c.co, .int .u8 c.se]) (.agg #[.int .u8 d.ch, .bool d.at_, .int .u8 d.fa, .int .u8 d.hi, .int .u8 d.co, .int .u8 d.se])).run Try.prog w = .ok b w := by
  rw [eqC0]
  congr 1
  rw [← hb]
  rw [Bool.eq_iff_iff]
  simp only [Bool.and_eq_true, beq_iff_eq, decide_eq_true_eq]
  constructor
  · rintro ⟨h1, h2, h3, h4, h5, h6⟩; exact Cl.ext_ h1 h2 h3 h4 h5 h6
  · rintro rfl; simp
theorem eqSz (p0 p1 q0 q1 : Int) (w : World) : (Op.equalIn 10000 58 (.agg #[.int .i64 p0, .int .i64 p1]) (.agg #[.int .i64 q0, .int .i64 q1])).run Try.prog w = .ok (p0 == q0 && p1 == q1) w := by
  have u3 := Try.underlying3
  have a3 := Try.isAgg3
  have z3 := Try.sizeOf3
  rw [show (10000 : Nat) = 9999 + 1 from rfl, Op.equalIn]
  simp only [Sem.run_bind, run_underlying Try.underlying58, Result.andThen_ok]
  go_simp
  by_cases e0 : p0 = q0 <;> by_cases e1 : p1 = q1 <;> simp [e0, e1]
theorem eqSa (p0 p1 q0 q1 : Int) (w : World) : (Op.equalIn 10000 38 (.agg #[.int .i64 p0, .int .i64 p1]) (.agg #[.int .i64 q0, .int .i64 q1])).run Try.prog w = .ok (p0 == q0 && p1 == q1) w := by
  have u3 := Try.underlying3
  have a3 := Try.isAgg3
  have z3 := Try.sizeOf3
  rw [show (10000 : Nat) = 9999 + 1 from rfl, Op.equalIn]
  simp only [Sem.run_bind, run_underlying Try.underlying38, Result.andThen_ok]
  go_simp
  by_cases e0 : p0 = q0 <;> by_cases e1 : p1 = q1 <;> simp [e0, e1]
/-- a row of a list of structs, as it lies -/
theorem row_at {α : Type} {k : Nat} {enc : α → List Value} (hk : ∀ x, (enc x).length = k) {w : World} {B b off n : Nat} {L : List α} (h : Reads w B k (some ⟨b, off, none⟩) n (L.flatMap enc)) {j : Nat} {x : α} (hj : L[j]? = some x) (h0 : 0 < k) :
    ∀ i u, (enc x)[i]? = some u → w.cell? ⟨b, off + j * k + i, none⟩ = some u := by
  intro i u hu
  have hjl := (List.getElem?_eq_some_iff.1 hj).1
  have hL : L.length = n := by have := h.1; rw [flatMap_len hk] at this; exact Nat.eq_of_mul_eq_mul_right h0 this
  obtain ⟨b', off', e, hb, hc⟩ := h.2 (by omega)
  injection e with e
  injection e with e1 e2 _
  subst e1; subst e2
  rw [Nat.add_assoc]
  refine hc _ u ?_
  have hi : i < k := by have := (List.getElem?_eq_some_iff.1 hu).1; rw [hk] at this; exact this
  clear hc h hL
  induction L generalizing j with
  | nil => simp at hjl
  | cons y L ih =>
    rw [List.flatMap_cons]
    cases j with
    | zero =>
      simp at hj
      subst hj
      rw [List.getElem?_append_left (by rw [hk]; omega)]
      simpa using hu
    | succ j =>
      rw [List.getElem?_append_right (by rw [hk, Nat.succ_mul]; omega), hk]
      rw [show (j + 1) * k + i - k = j * k + i by rw [Nat.succ_mul]; omega]
      exact ih (by simpa using hj) (by simp at hjl; omega)
end Go.Proofs.Ytjokcfenncogkaa
