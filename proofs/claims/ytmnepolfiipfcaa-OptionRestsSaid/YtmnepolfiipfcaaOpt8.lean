/-
  A message's bytes; what is said is one word of that option. No condition.
-/
import Derived.Test.YtmnepolfiipfcaaOpt7
import Derived.Test.YtmnepolfiipfcaaMix
namespace Go.Proofs.Ytmnepolfiipfcaa
open Go.RowKit
set_option linter.unusedVariables false
set_option linter.unusedSimpArgs false

theorem say_is (v o : Int) (w : World) : Calls Try.prog 35 #[.int .u8 v, .int .u8 o] w fun e w' => ∃ A n c, e = .returned (.slice A n c) ∧ RSl [255, v, o] (.slice A n c) w' ∧ Up w w' := by
  go_enter Try.func35, Try.ntmps35
  go_wp2
  go_ret
  exact ⟨_, _, _, rfl, rsl_lit _ _ _ _ _ _ rfl rfl (by simp [maxLen]) rfl, by (repeat (first | with_reducible exact Up.refl _ | with_reducible refine Up.alloc ?_ _ | with_reducible refine Up.drew ?_ | with_reducible refine Up.drewN ?_ _ | with_reducible refine Up.setCell ?_ (by (try simp) <;> omega) _ | with_reducible assumption | with_reducible refine Up.trans ?_ (by assumption)))⟩
theorem msg_is (v o : Int) (w : World) : Calls Try.prog 16 #[.agg #[.int .u8 v, .int .u8 o]] w fun e w' => ∃ A n c, e = .returned (.slice A n c) ∧ RSl [255, v, o] (.slice A n c) w' ∧ Up w w' := by
  go_enter Try.func16, Try.ntmps16
  go_wp2_with fail
  refine (say_is _ _ _).mono ?_
  rintro e w' ⟨A, n, c, rfl, hR, hu⟩
  have HR := Lib.hid hR
  clear hR
  go_wp2_with fail
  go_ret
  exact ⟨_, _, _, rfl, HR.out, by (repeat (first | with_reducible exact Up.refl _ | with_reducible refine Up.alloc ?_ _ | with_reducible refine Up.drew ?_ | with_reducible refine Up.drewN ?_ _ | with_reducible refine Up.setCell ?_ (by (try simp) <;> omega) _ | with_reducible assumption | with_reducible refine Up.trans ?_ (by assumption)))⟩
theorem same_at {A A' : Option Addr} {n n' c c' B B' : Nat} {l l' : List Int} {w : World} {t : Bool} (hr : Reads w B 1 A n (bs l)) (hr' : Reads w B' 1 A' n' (bs l')) (hl : ∀ x ∈ l, 0 ≤ x ∧ x ≤ 255) (hl' : ∀ x ∈ l', 0 ≤ x ∧ x ≤ 255) (ht : decide (l = l') = t) :
    Calls Try.prog 15 #[.slice A n c, .slice A' n' c'] w fun e w' => e = .returned (.bool t) ∧ w = w' := by
  subst ht; exact same_any A A' n n' c c' B B' l l' w hr hr' hl hl'
theorem sayL_form (i wd o : Int) : sayL i wd o = [] ∨ ∃ v, sayL i wd o = [(v, o)] ∧ 0 ≤ v ∧ v ≤ 255 := by
  unfold sayL; split
  · exact .inl rfl
  · refine .inr ⟨_, rfl, ?_⟩
    unfold verbOf; repeat' split
    all_goals omega
theorem hearL_form (v : Int) (k : Nat) (S : Nat → Nat → Int) (G : Nat → Nat → Bool) : hearL v k S G = [] ∨ ∃ x, hearL v k S G = [(x, (k : Int))] ∧ 0 ≤ x ∧ x ≤ 255 := by
  unfold hearL; split
  · exact sayL_form _ _ _
  · exact .inl rfl
theorem askL_form (i : Int) (k : Nat) (t : Bool) (S : Nat → Nat → Int) : askL i k t S = [] ∨ ∃ x, askL i k t S = [(x, (k : Int))] ∧ 0 ≤ x ∧ x ≤ 255 := by
  unfold askL; repeat' split
  · exact sayL_form _ _ _
  · exact .inl rfl
  · exact .inl rfl

/-- an array of 256 numbers in a block of its own -/
def NumsAt (w : World) (b : Nat) (H : Nat → Int) : Prop := ∀ o, o < 256 → w.cell? ⟨b, o, none⟩ = some (.int .i64 (H o)) ∧ w.frozen? ⟨b, o, none⟩ = false
theorem NumsAt.set {w : World} {b : Nat} {H : Nat → Int} (h : NumsAt w b H) (k : Nat) (hk : k < 256) (x : Int) : NumsAt (w.setCell ⟨b, k, none⟩ (.int .i64 x)) b (fun o => if o = k then x else H o) := by
  intro o ho
  obtain ⟨h1, h2⟩ := h o ho
  refine ⟨?_, by rw [World.frozen?_setCell]; exact h2⟩
  by_cases e : o = k
  · subst e; rw [World.cell?_setCell_same (h := h1)]; simp
  · rw [World.cell?_setCell_other (h := (ad_ne (Ne.symm e)))]; simp only [if_neg e]; exact h1
theorem NumsAt.kept {w w' : World} {b : Nat} {H : Nat → Int} {E : Nat → Prop} (h : NumsAt w b H) (hk : Keep E w w') (hb : b < w.heap.size) (he : ¬ E b) : NumsAt w' b H := by
  intro o ho
  have := hk.at_ b hb he
  exact ⟨(this.1 o).trans (h o ho).1, (this.2 o).trans (h o ho).2⟩
theorem NumsAt.ext {w : World} {b : Nat} {H H' : Nat → Int} (h : NumsAt w b H) (e : ∀ o, o < 256 → H o = H' o) : NumsAt w b H' := fun o ho => by rw [← e o ho]; exact h o ho
theorem MAt.kept {w w' : World} {b : Nat} {S : Nat → Nat → Int} {G : Nat → Nat → Bool} {E : Nat → Prop} (h : MAt w b S G) (hk : Keep E w w') (hb : b < w.heap.size) (he : ¬ E b) : MAt w' b S G := by
  intro i o hi ho
  obtain ⟨⟨h1, h2⟩, h3, h4⟩ := h i o hi ho
  have hc := hk.at_ b hb he
  exact ⟨⟨(hc.1 _).trans h1, (hc.2 _).trans h2⟩, (hc.1 _).trans h3, (hc.2 _).trans h4⟩
end Go.Proofs.Ytmnepolfiipfcaa
