/-
  order's names and what an order begins with, and the document's. No condition.
-/
import Derived.Test.YtahlilogobfhcaaMix
namespace Go.Proofs.Ytahlilogobfhcaa
open Go.RowKit
set_option linter.unusedVariables false
set_option linter.unusedSimpArgs false

def nm16 (k : Int) : ByteArray := if k = 0 then ⟨#[84, 101, 120, 116]⟩ else if k = 5 then ⟨#[80, 84]⟩ else if k = 8 then ⟨#[71, 69]⟩ else if k = 17 then ⟨#[83, 66, 65]⟩ else if k = 18 then ⟨#[69, 85, 65]⟩ else if k = 19 then ⟨#[73, 67]⟩ else if k = 29 then ⟨#[83, 70]⟩ else if k = 40 then ⟨#[83, 65]⟩ else if k = 41 then ⟨#[83, 70, 69]⟩ else if k = 44 then ⟨#[77, 70]⟩ else if k = 60 then ⟨#[82, 65]⟩ else ⟨#[]⟩
def isOrd (x : Int) : Bool := x == 5 || x == 8 || x == 17 || x == 18 || x == 19 || x == 29 || x == 40 || x == 41 || x == 44 || x == 60
theorem ord_tab : ∀ k : Fin 256, ((k.val : Int) != 0 && nm16 (k.val : Int) != ⟨#[]⟩) = isOrd (k.val : Int) := by decide +kernel
theorem kinds_or (k : Int) : k = 0 ∨ k = 5 ∨ k = 8 ∨ k = 17 ∨ k = 18 ∨ k = 19 ∨ k = 29 ∨ k = 40 ∨ k = 41 ∨ k = 44 ∨ k = 60 ∨ ((k == 0) = false ∧ (k == 5) = false ∧ (k == 8) = false ∧ (k == 17) = false ∧ (k == 18) = false ∧ (k == 19) = false ∧ (k == 29) = false ∧ (k == 40) = false ∧ (k == 41) = false ∧ (k == 44) = false ∧ (k == 60) = false) := by
  by_cases h : k = 0 ∨ k = 5 ∨ k = 8 ∨ k = 17 ∨ k = 18 ∨ k = 19 ∨ k = 29 ∨ k = 40 ∨ k = 41 ∨ k = 44 ∨ k = 60
  · rcases h with h | h | h | h | h | h | h | h | h | h | h <;> simp [h]
  · simp only [not_or] at h
    refine .inr (.inr (.inr (.inr (.inr (.inr (.inr (.inr (.inr (.inr (.inr (⟨by simp [h], by simp [h], by simp [h], by simp [h], by simp [h], by simp [h], by simp [h], by simp [h], by simp [h], by simp [h], by simp [h]⟩)))))))))))
theorem nm16_no {k : Int} (h : (k == 0) = false ∧ (k == 5) = false ∧ (k == 8) = false ∧ (k == 17) = false ∧ (k == 18) = false ∧ (k == 19) = false ∧ (k == 29) = false ∧ (k == 40) = false ∧ (k == 41) = false ∧ (k == 44) = false ∧ (k == 60) = false) : nm16 k = ⟨#[]⟩ := by
  obtain ⟨h0, h1, h2, h3, h4, h5, h6, h7, h8, h9, h10⟩ := h
  simp only [beq_eq_false_iff_ne, ne_eq] at h0 h1 h2 h3 h4 h5 h6 h7 h8 h9 h10
  unfold nm16
  simp only [if_neg, h0, h1, h2, h3, h4, h5, h6, h7, h8, h9, h10, not_false_eq_true, if_false]
set_option maxHeartbeats 800000 in
theorem oname_is (k : Int) (w : World) : Calls Try.prog 6 #[.int .i64 k] w fun e w' => e = .returned (.string (nm16 k)) ∧ w = w' := by
  rcases kinds_or k with rfl | rfl | rfl | rfl | rfl | rfl | rfl | rfl | rfl | rfl | rfl | h
  case inr.inr.inr.inr.inr.inr.inr.inr.inr.inr.inr =>
    rw [nm16_no h]
    obtain ⟨h0, h1, h2, h3, h4, h5, h6, h7, h8, h9, h10⟩ := h
    go_enter Try.func6, Try.ntmps6
    go_wp2
    go_ret
    exact ⟨rfl, rfl⟩
  all_goals
    go_enter Try.func6, Try.ntmps6
    go_wp2
    go_ret
    exact ⟨rfl, rfl⟩
set_option maxHeartbeats 3200000 in
theorem rname_is (k : Int) (w : World) : Calls Try.prog 7 #[.int .i64 k] w fun e w' => e = .returned (.string (nm16 k)) ∧ Up w w' := by
  rcases kinds_or k with rfl | rfl | rfl | rfl | rfl | rfl | rfl | rfl | rfl | rfl | rfl | h
  case inr.inr.inr.inr.inr.inr.inr.inr.inr.inr.inr =>
    rw [nm16_no h]
    obtain ⟨h0, h1, h2, h3, h4, h5, h6, h7, h8, h9, h10⟩ := h
    simp only [beq_eq_false_iff_ne, ne_eq] at h0 h1 h2 h3 h4 h5 h6 h7 h8 h9 h10
    have g0 : ((0 : Int) == k) = false := by simpa using fun e => h0 e.symm
    have g1 : ((5 : Int) == k) = false := by simpa using fun e => h1 e.symm
    have g2 : ((8 : Int) == k) = false := by simpa using fun e => h2 e.symm
    have g3 : ((17 : Int) == k) = false := by simpa using fun e => h3 e.symm
    have g4 : ((18 : Int) == k) = false := by simpa using fun e => h4 e.symm
    have g5 : ((19 : Int) == k) = false := by simpa using fun e => h5 e.symm
    have g6 : ((29 : Int) == k) = false := by simpa using fun e => h6 e.symm
    have g7 : ((40 : Int) == k) = false := by simpa using fun e => h7 e.symm
    have g8 : ((41 : Int) == k) = false := by simpa using fun e => h8 e.symm
    have g9 : ((44 : Int) == k) = false := by simpa using fun e => h9 e.symm
    have g10 : ((60 : Int) == k) = false := by simpa using fun e => h10 e.symm
    clear h0 h1 h2 h3 h4 h5 h6 h7 h8 h9 h10
    go_enter Try.func7, Try.ntmps7
    go_wp2
    refine wp_loop_rounds 12 ?_
    iterate 13 (all_goals (try rw [rounds_succ]); all_goals (try go_wp2))
    go_ret
    exact ⟨rfl, by (repeat (first | with_reducible exact Up.refl _ | with_reducible refine Up.alloc ?_ _ | with_reducible refine Up.drew ?_ | with_reducible refine Up.drewN ?_ _ | with_reducible refine Up.setCell ?_ (by (try simp) <;> omega) _ | with_reducible assumption | with_reducible refine Up.trans ?_ (by assumption)))⟩
  all_goals
    go_enter Try.func7, Try.ntmps7
    go_wp2
    refine wp_loop_rounds 12 ?_
    iterate 13 (all_goals (try rw [rounds_succ]); all_goals (try go_wp2))
    go_ret
    exact ⟨rfl, by (repeat (first | with_reducible exact Up.refl _ | with_reducible refine Up.alloc ?_ _ | with_reducible refine Up.drew ?_ | with_reducible refine Up.drewN ?_ _ | with_reducible refine Up.setCell ?_ (by (try simp) <;> omega) _ | with_reducible assumption | with_reducible refine Up.trans ?_ (by assumption)))⟩
end Go.Proofs.Ytahlilogobfhcaa
