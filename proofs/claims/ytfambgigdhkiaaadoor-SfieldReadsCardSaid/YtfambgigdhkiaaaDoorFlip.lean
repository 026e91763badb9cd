/-
  What the references' Flip does to bytes of the call's own: other blocks are as they were. No condition.
-/
import Derived.Test.YtfambgigdhkiaaaDoorBytes
namespace Go.Proofs.YtfambgigdhkiaaaDoor
open Go.RowKit
set_option linter.unusedVariables false
set_option linter.unusedSimpArgs false

set_option maxHeartbeats 800000 in
theorem flip_any (A : Option Addr) (n c base : Nat) (l : List Int) (w : World) (hown : w.ownsRow base 5 1 (.slice A n c) n (bs l)) (hn : n ≤ 65536) :
    Calls Tryd.prog 25 #[.slice A n c] w fun e w' => e = .returned (.tuple #[]) ∧ w.grownBy w' (Value.slice A n c).ownBlock := by
  go_enter Tryd.func25, Tryd.ntmps25
  go_wp2
  go_loopw [5] (fun i wr => ∃ (j : Nat) (l' : List Int), j ≤ n ∧ i = .int .i64 (j : Int) ∧ wr.ownsRow base 5 1 (.slice A n c) n (bs l') ∧ w.grownBy wr (Value.slice A n c).ownBlock) (fun i _ => n - (intOf i).toNat)
  case atStart => exact ⟨0, l, by omega, rfl, hown, World.grownBy.refl w _⟩
  case round =>
    obtain ⟨j, l', hj, rfl, ho, hg⟩ := hrel
    by_cases hlt : j < n
    · obtain ⟨g, cap, e1, hbg, hltg⟩ := ho.form (by omega)
      injection e1 with e1 _ e2
      subst e1
      clear e2
      have hl : l'.length = n := by have := ho.1; simpa [bs] using this
      have hc : wr.cell? ⟨g, j, none⟩ = some (.int .u8 (l'.getD j 0)) := by
        rw [ho.cellAt j (by omega), bs, List.getElem?_map, List.getElem?_eq_getElem (by omega)]
        simp [List.getD, List.getElem?_eq_getElem (show j < l'.length by omega)]
      have hf := ho.frozenAt j
      have hst := ho.stored j (.int .u8 (bits .xor .u8 (l'.getD j 0) 255))
      generalize l'.getD j 0 = v at *
      go_wp2
      go_roundw
      case rel =>
        refine ⟨j + 1, l'.set j (bits .xor .u8 v 255), by omega, by go_num, ?_, hg.trans ?_⟩
        · rw [bs, List.map_set]
          exact hst.1
        · exact hst.2
      case measure => simp [intOf]; omega
    · obtain rfl : j = n := by omega
      go_wp2
      go_end0
      exact ⟨rfl, hg⟩
end Go.Proofs.YtfambgigdhkiaaaDoor
