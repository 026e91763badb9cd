/-
  DERIVED. GIVEN WITH THE SEED: THE PROGRAM's TIES (one call each: nine closed facts by the kernel) AND EACH ROW's TIE, after the 31st guide's Derived/Test/Toyas{Tie, Card}.lean. No idea stands in it: it is a product of the set-up. Laid BY PROGRAM, IN A SANDBOX (cutbox-door.mjs). By AI agents, Wed Nov 11 2026. No macro, syntax, notation, axiom, sorry.
-/
import Derived.Test.YtfambgigdhkiaaaDoorRows
import Derived.LaidByTextLater
import Derived.SevenTiedAt
import Derived.LaidSub
import Derived.LaidOnce
namespace Go.Proofs.YtfambgigdhkiaaaDoor
open Go
set_option maxRecDepth 100000
theorem seatTie1 : Tryd.prog.laidByTextLater [("vitrine/write.names", Rows.laid_vitrine_write_names), ("vitrine/sfield.names", Rows.laid_vitrine_sfield_names)] [.data, .data] true :=
  Program.laidByTextLater_by_one 28 8 28 (by kernel_rfl) (by kernel_rfl) (by kernel_rfl) (by kernel_rfl) (by kernel_rfl) (by kernel_rfl) (fun _ _ => by kernel_rfl)
theorem noOwnUnsafe : Tryd.pinned.checked.prog.headLifts.contains "ownunsafe" = false := by kernel_rfl
theorem tie : Tryd.prog.laidByTextLater [("vitrine/write.names", Rows.laid_vitrine_write_names)] [.data] true :=
  Program.laidByTextLater.sub seatTie1 ["vitrine/write.names"] (by kernel_rfl) (by kernel_rfl)
theorem sfieldRest_row_tie : Rows.sfieldRestRow.laidByTextAt .later Tryd.pinned [.data] true :=
  OpenClaim.laidByTextAt_later rfl rfl tie noOwnUnsafe
theorem sfieldBytes_row_tie : Rows.sfieldBytesRow.laidByTextAt .later Tryd.pinned [.data] true :=
  OpenClaim.laidByTextAt_later rfl rfl tie noOwnUnsafe
theorem sfieldReads_row_tie : Rows.sfieldReadsRow.laidByTextAt .later Tryd.pinned [.data] true :=
  OpenClaim.laidByTextAt_later rfl rfl tie noOwnUnsafe
theorem sfieldRecords_row_tie : Rows.sfieldRecordsRow.laidByTextAt .later Tryd.pinned [.data] true :=
  OpenClaim.laidByTextAt_later rfl rfl tie noOwnUnsafe
theorem tie2 : Tryd.prog.laidByTextLater [("vitrine/write.names", Rows.laid_vitrine_write_names), ("vitrine/sfield.names", Rows.laid_vitrine_sfield_names)] [.data, .data] true :=
  Program.laidByTextLater.sub seatTie1 ["vitrine/write.names", "vitrine/sfield.names"] (by kernel_rfl) (by kernel_rfl)
theorem sfieldActs_row_tie : Rows.sfieldActsRow.laidByTextAt .later Tryd.pinned [.data, .data] true :=
  OpenClaim.laidByTextAt_later rfl rfl tie2 noOwnUnsafe
theorem sfieldRestUpto_row_tie : Rows.sfieldRestUptoRow.laidByTextAt .later Tryd.pinned [.data] true :=
  OpenClaim.laidByTextAt_later rfl rfl tie noOwnUnsafe
theorem sfieldBytesUpto_row_tie : Rows.sfieldBytesUptoRow.laidByTextAt .later Tryd.pinned [.data] true :=
  OpenClaim.laidByTextAt_later rfl rfl tie noOwnUnsafe
theorem sfieldReadsUpto_row_tie : Rows.sfieldReadsUptoRow.laidByTextAt .later Tryd.pinned [.data] true :=
  OpenClaim.laidByTextAt_later rfl rfl tie noOwnUnsafe
theorem sfieldActsUpto_row_tie : Rows.sfieldActsUptoRow.laidByTextAt .later Tryd.pinned [.data, .data] true :=
  OpenClaim.laidByTextAt_later rfl rfl tie2 noOwnUnsafe
theorem sfieldRecordsUpto_row_tie : Rows.sfieldRecordsUptoRow.laidByTextAt .later Tryd.pinned [.data] true :=
  OpenClaim.laidByTextAt_later rfl rfl tie noOwnUnsafe
end Go.Proofs.YtfambgigdhkiaaaDoor
