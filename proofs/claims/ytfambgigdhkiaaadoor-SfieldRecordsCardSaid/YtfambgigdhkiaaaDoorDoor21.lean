/-
  The table of write's names, as the row lists it. No condition.
-/
import Derived.Test.YtfambgigdhkiaaaDoorCmd
import Derived.Test.YtfambgigdhkiaaaDoorRows
namespace Go.Proofs.YtfambgigdhkiaaaDoor
open Go.RowKit

theorem tabW_row {W : World} (h : laidMetH Tryd.prog [("vitrine/write.names", Rows.laid_vitrine_write_names)] W) : TabW W := tabW_of (rest := []) h
end Go.Proofs.YtfambgigdhkiaaaDoor
