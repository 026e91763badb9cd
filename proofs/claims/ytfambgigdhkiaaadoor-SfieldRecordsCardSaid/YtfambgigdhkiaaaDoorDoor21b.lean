/-
  The table of write's names, as SfieldActs' row lists it. No condition.
-/
import Derived.Test.YtfambgigdhkiaaaDoorCmd
import Derived.Test.YtfambgigdhkiaaaDoorRows
namespace Go.Proofs.YtfambgigdhkiaaaDoor
open Go.RowKit

theorem tabW_row2 {W : World} (h : laidMetH Tryd.prog [("vitrine/write.names", Rows.laid_vitrine_write_names), ("vitrine/sfield.names", Rows.laid_vitrine_sfield_names)] W) : TabW W := tabW_of (rest := [("vitrine/sfield.names", Rows.laid_vitrine_sfield_names)]) h
end Go.Proofs.YtfambgigdhkiaaaDoor
