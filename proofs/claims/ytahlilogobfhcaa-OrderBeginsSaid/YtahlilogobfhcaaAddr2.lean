/-
  What addr's Size methods At, Row, Col, Move, Line, Length and the reference's Wrap, At, Move compute. No condition (numbers of any size).
-/
import Derived.Test.YtahlilogobfhcaaAddr1
namespace Go.Proofs.Ytahlilogobfhcaa
open Go.RowKit
set_option linter.unusedVariables false
set_option linter.unusedSimpArgs false

def atN (r c row col : Int) : Int := row % r * c + col % c
def moveM (r c n cols : Int) : Int := (n % (r * c) + cols % (r * c)) % (r * c)
def moveN (r c n rows cols : Int) : Int := atN r c (moveM r c n cols / c + rows % r) (moveM r c n cols % c)
/-- what a valid size gives -/
theorem valid_facts {r c : Int} (h : validB r c = true) : 1 ≤ r ∧ r ≤ 43 ∧ 1 ≤ c ∧ c ≤ 132 ∧ 1 ≤ r * c ∧ r * c ≤ 3564 := by
  obtain ⟨h0, h1, h2, h3, h4⟩ := (valid_iff r c).1 h
  have hm : 1 ≤ r * c := by
    have := Int.mul_le_mul h0 h2 (by omega) (by omega)
    simpa using this
  exact ⟨h0, h1, h2, h3, hm, h4⟩
theorem mod_facts (n b : Int) (h : 1 ≤ b) : 0 ≤ n % b ∧ n % b < b := ⟨Int.emod_nonneg n (by omega), Int.emod_lt_of_pos n (by omega)⟩
theorem atN_bd {r c : Int} (h : validB r c = true) (row col : Int) : 0 ≤ atN r c row col ∧ atN r c row col < r * c := by
  obtain ⟨h0, h1, h2, h3, h4, h5⟩ := valid_facts h
  have hr := mod_facts row r h0
  have hc := mod_facts col c h2
  have hm := Int.mul_nonneg hr.1 (show 0 ≤ c by omega)
  have hu : row % r * c ≤ (r - 1) * c := Int.mul_le_mul_of_nonneg_right (by omega) (by omega)
  rw [Int.sub_mul, Int.one_mul] at hu
  unfold atN
  omega

/-- how many places between two, round the screen -/
def lenN (r c a b : Int) : Int := if (b - a) % (r * c) = 0 then r * c else (b - a) % (r * c)
end Go.Proofs.Ytahlilogobfhcaa
