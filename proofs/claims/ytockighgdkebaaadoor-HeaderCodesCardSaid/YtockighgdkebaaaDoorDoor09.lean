/-
  The table of header's names, as the row lists it. No condition.
-/
import Derived.Test.YtockighgdkebaaaDoorHead3
import Derived.Test.YtockighgdkebaaaDoorStrTab
namespace Go.Proofs.YtockighgdkebaaaDoor
open Go.RowKit

theorem gTab : Tryd.prog.globalNamed "vitrine/header.names" = some 0 := by kernel_rfl
theorem gTabType : (Tryd.prog.globals[0]?).map (·.type) = some 56 := by kernel_rfl
theorem cellsStr : Tryd.prog.cellsOf 9 = 1 := by kernel_rfl
def nameBytes : List (List UInt8) := nameList.map fun b => b.data.toList
theorem names_datum {H : Type} : (Rows.laid_vitrine_header_names : DataW H) = .agg (nameBytes.map fun l => .lit (.string l)) := rfl
theorem nameBytes_at (i : Nat) (h : i < 9) : nameBytes[i]? = some (nameOf (i : Int)).data.toList := by
  have : ∀ k : Fin 9, nameBytes[k.val]? = some (nameOf ((k.val : Nat) : Int)).data.toList := by decide
  exact this ⟨i, h⟩
theorem tabH_of {W : World} (h : laidMetH Tryd.prog [("vitrine/header.names", Rows.laid_vitrine_header_names)] W) : TabH W := by
  have hc : ∀ i : Nat, i < 9 → W.cell? ⟨0, i, none⟩ = some (.string (nameOf i)) := fun i hi => by
    have := laid_strs (ls := nameBytes) (rest := []) gTab gTabType Tryd.underlying56 Tryd.underlying9 cellsStr h i _ (nameBytes_at i hi)
    rw [this]
  exact ⟨cell_lt (hc 0 (by omega)), hc⟩
end Go.Proofs.YtockighgdkebaaaDoor
