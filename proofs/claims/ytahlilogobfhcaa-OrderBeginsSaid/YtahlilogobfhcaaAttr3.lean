/-
  What attr's Apply and the reference's Apply and Six compute. No condition.
-/
import Derived.Test.YtahlilogobfhcaaAttr2
namespace Go.Proofs.Ytahlilogobfhcaa
open Go.RowKit
set_option linter.unusedVariables false
set_option linter.unusedSimpArgs false

def six05 (v : Int) : Int := fbits (fP v) (fN v) (fD v) (fM v)
theorem six05_and : ∀ k : Fin 256, bits .and .u8 (k.val : Int) 61 = six05 k.val := by decide +kernel
def aFA (t v : Int) (a : Bool) (fa : Int) : Int := if t = 192 ∧ a = true then six05 v else fa
def aHi (t v x : Int) : Int := if t = 0 ∨ t = 65 then v else x
def aCo (t v x : Int) : Int := if t = 0 ∨ t = 66 then v else x
def aSe (t v x : Int) : Int := if t = 0 ∨ t = 67 then v else x
theorem right_types {t v : Int} (h : rightB t v = true) : (t = 0 ∧ v = 0) ∨ t = 192 ∨ t = 65 ∨ t = 66 ∨ t = 67 := by
  unfold rightB at h
  by_cases h0 : t = 0
  · rw [if_pos h0] at h; exact .inl ⟨h0, by simpa using h⟩
  · by_cases h1 : t = 192
    · exact .inr (.inl h1)
    · by_cases h2 : t = 65
      · exact .inr (.inr (.inl h2))
      · by_cases h3 : t = 66
        · exact .inr (.inr (.inr (.inl h3)))
        · by_cases h4 : t = 67
          · exact .inr (.inr (.inr (.inr h4)))
          · simp [h0, h1, h2, h3, h4] at h

theorem and61 (v : Int) (h0 : 0 ≤ v) (h1 : v ≤ 255) : bits .and .u8 v 61 = six05 v := by
  have h := six05_and ⟨v.toNat, by omega⟩
  have e : ((v.toNat : Nat) : Int) = v := by omega
  simp only [e] at h
  exact h
end Go.Proofs.Ytahlilogobfhcaa
