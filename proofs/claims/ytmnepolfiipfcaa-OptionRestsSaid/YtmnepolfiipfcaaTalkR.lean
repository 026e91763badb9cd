/-
  The law's talk: one hearing, whatever is under way. Conditions: where it lies.
-/
import Derived.Test.YtmnepolfiipfcaaTalkA
import Derived.Test.YtmnepolfiipfcaaTalk0
import Derived.Test.YtmnepolfiipfcaaTalk1
namespace Go.Proofs.Ytmnepolfiipfcaa
open Go.RowKit
set_option linter.unusedVariables false
set_option linter.unusedSimpArgs false

theorem run_hear0 {w0 w : World} {B q a M : Nat} {b : Nat → Nat} {G : Nat → Nat → Nat → Bool} {Z : (Nat → List (Int × Int)) → Prop} (h : RunAt w0 B q b G a Z M w) (hM : M ≤ 1000) (ha : a ≤ 1000) :
    Calls Try.prog 17 #[.pointer (some ⟨q, 0, none⟩), .int .i64 0] w fun e w' => (e = .returned (.bool true) ∧ ∃ M', M' < M ∧ RunAt w0 B q b G a (fun _ => True) M' w') ∨ (e = .returned (.bool false) ∧ RunAt w0 B q b G a (fun Y => Z Y ∧ Y 0 = []) M w') := by
  obtain ⟨t, A, n, c, Y, S, f, h1, h2, h3, h4, h5, h6⟩ := h
  cases hY : Y 0 with
  | nil =>
    refine (hear_none0 h1 hY).mono ?_
    rintro e w' ⟨rfl, rfl⟩
    exact .inr ⟨rfl, t, A, n, c, Y, S, f, h1, h2, h3, h4, ⟨h5, hY⟩, h6⟩
  | cons x r =>
    obtain ⟨v, o⟩ := x
    obtain ⟨k, f', hk, rfl, hv, h7, h8⟩ := ends_hear h2 (e := 0) (by omega) hY
    have hnO := h1.q1.1
    refine (hear_one0 h1 hY hv hk (by omega) (by omega)).mono ?_
    rintro e w' ⟨rfl, A', n', c', h9, h10⟩
    refine .inl ⟨rfl, M - 1, ?_, t + _, A', n', c', _, _, f', h9, h7, ?_, ?_, trivial, h6.trans h10⟩
    · have : (Y 0).length = r.length + 1 := by rw [hY]; rfl
      omega
    · omega
    · have hr : (Y 0).length = r.length + 1 := by rw [hY]; rfl
      have e1 : (set1 (set1 Y 0 r) (1 - 0) (Y (1 - 0) ++ hearL v k (S 0) (G 0))) 0 = r := by rw [set1_other _ _ (by omega), set1_same]
      have e2 : (set1 (set1 Y 0 r) (1 - 0) (Y (1 - 0) ++ hearL v k (S 0) (G 0))) 1 = Y 1 ++ hearL v k (S 0) (G 0) := set1_same _ _ _
      rw [e1, e2, List.length_append]
      omega
theorem run_hear1 {w0 w : World} {B q a M : Nat} {b : Nat → Nat} {G : Nat → Nat → Nat → Bool} {Z : (Nat → List (Int × Int)) → Prop} (h : RunAt w0 B q b G a Z M w) (hM : M ≤ 1000) (ha : a ≤ 1000) :
    Calls Try.prog 17 #[.pointer (some ⟨q, 0, none⟩), .int .i64 1] w fun e w' => (e = .returned (.bool true) ∧ ∃ M', M' < M ∧ RunAt w0 B q b G a (fun _ => True) M' w') ∨ (e = .returned (.bool false) ∧ RunAt w0 B q b G a (fun Y => Z Y ∧ Y 1 = []) M w') := by
  obtain ⟨t, A, n, c, Y, S, f, h1, h2, h3, h4, h5, h6⟩ := h
  cases hY : Y 1 with
  | nil =>
    refine (hear_none1 h1 hY).mono ?_
    rintro e w' ⟨rfl, rfl⟩
    exact .inr ⟨rfl, t, A, n, c, Y, S, f, h1, h2, h3, h4, ⟨h5, hY⟩, h6⟩
  | cons x r =>
    obtain ⟨v, o⟩ := x
    obtain ⟨k, f', hk, rfl, hv, h7, h8⟩ := ends_hear h2 (e := 1) (by omega) hY
    have hnO := h1.q0.1
    refine (hear_one1 h1 hY hv hk (by omega) (by omega)).mono ?_
    rintro e w' ⟨rfl, A', n', c', h9, h10⟩
    refine .inl ⟨rfl, M - 1, ?_, t + _, A', n', c', _, _, f', h9, h7, ?_, ?_, trivial, h6.trans h10⟩
    · have : (Y 1).length = r.length + 1 := by rw [hY]; rfl
      omega
    · omega
    · have hr : (Y 1).length = r.length + 1 := by rw [hY]; rfl
      have e1 : (set1 (set1 Y 1 r) (1 - 1) (Y (1 - 1) ++ hearL v k (S 1) (G 1))) 1 = r := by rw [set1_other _ _ (by omega), set1_same]
      have e2 : (set1 (set1 Y 1 r) (1 - 1) (Y (1 - 1) ++ hearL v k (S 1) (G 1))) 0 = Y 0 ++ hearL v k (S 1) (G 1) := set1_same _ _ _
      rw [e1, e2, List.length_append]
      omega
theorem run_hear {w0 w : World} {B q a M e : Nat} {b : Nat → Nat} {G : Nat → Nat → Nat → Bool} {Z : (Nat → List (Int × Int)) → Prop} (he : e < 2) (h : RunAt w0 B q b G a Z M w) (hM : M ≤ 1000) (ha : a ≤ 1000) :
    Calls Try.prog 17 #[.pointer (some ⟨q, 0, none⟩), .int .i64 (e : Int)] w fun x w' => ∃ t, x = .returned (.bool t) ∧ RunAt w0 B q b G a (fun _ => True) M w' := by
  rcases (show e = 0 ∨ e = 1 by omega) with rfl | rfl
  · refine Calls.mono (run_hear0 h hM ha) ?_
    rintro x w' (⟨rfl, M', h1, h2⟩ | ⟨rfl, h2⟩)
    · exact ⟨_, rfl, h2.weak (by omega) (fun _ _ => trivial)⟩
    · exact ⟨_, rfl, h2.weak (by omega) (fun _ _ => trivial)⟩
  · refine Calls.mono (run_hear1 h hM ha) ?_
    rintro x w' (⟨rfl, M', h1, h2⟩ | ⟨rfl, h2⟩)
    · exact ⟨_, rfl, h2.weak (by omega) (fun _ _ => trivial)⟩
    · exact ⟨_, rfl, h2.weak (by omega) (fun _ _ => trivial)⟩
end Go.Proofs.Ytmnepolfiipfcaa
