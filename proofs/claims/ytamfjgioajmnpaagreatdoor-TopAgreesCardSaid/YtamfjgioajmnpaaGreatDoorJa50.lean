/-
The table of write's names, as the Tops' rows list it: the third of four. No condition.
The closed facts of TopAgrees's row, each a lemma of its own, and that nothing starts a goroutine. No condition.
The closed facts of TopAgrees's row, each a lemma of its own, and that nothing starts a goroutine. No condition.
-/
import Derived.Test.YtamfjgioajmnpaaGreatDoorJa32
import Derived.Test.YtamfjgioajmnpaaGreatDoorRows
import Derived.Test.YtamfjgioajmnpaaGreatDoorJa1
import Derived.Test.YtamfjgioajmnpaaGreatDoorCards
import Derived.Deep.DeepHandedRow
namespace Go.Proofs.YtamfjgioajmnpaaGreatDoor
open Go.RowKit
set_option linter.unusedVariables false

theorem laid_tail {P : Program} {x : String × DataW Unit} {rest : List (String × DataW Unit)} {W : World} (h : laidMet P (x :: rest) W) : laidMet P rest W := by
  obtain ⟨ps, ⟨_, _, _, _, p, q, _, _, _, _, hrest, hps⟩, hn, hc⟩ := h
  subst hps
  exact ⟨q, hrest, (List.nodup_append.1 hn).2.1, fun b off hm => hc b off (List.mem_append.2 (.inr hm))⟩
theorem tabW_row {W : World} (h : laidMetH Tryz.prog [("unicode/utf8.acceptRanges", Rows.laid_unicode_utf8_acceptRanges), ("vitrine/header.names", Rows.laid_vitrine_header_names), ("vitrine/write.names", Rows.laid_vitrine_write_names), ("unicode/utf8.first", Rows.laid_unicode_utf8_first)] W) : TabW W := by
  have h0 : laidMet Tryz.prog [("unicode/utf8.acceptRanges", Rows.laid_unicode_utf8_acceptRanges), ("vitrine/header.names", Rows.laid_vitrine_header_names), ("vitrine/write.names", Rows.laid_vitrine_write_names), ("unicode/utf8.first", Rows.laid_unicode_utf8_first)] W := h
  exact tabW_of (rest := [("unicode/utf8.first", Rows.laid_unicode_utf8_first)]) (laid_tail (laid_tail h0))
end Go.Proofs.YtamfjgioajmnpaaGreatDoor
namespace Go.Proofs.YtamfjgioajmnpaaGreatDoor.topAgrees
open Go.ChangeShapes Go.WideShapes Go.ChangeAt Go.RowKit Go.Joins Go.Deep
set_option linter.unusedVariables false

theorem goes_none {P : Program} (h : P.funcs.any Func.goes = false) (f : FuncId) : P.goes f = false := by
  unfold Program.goes
  rw [h, Bool.and_false, Bool.or_false]
  rw [List.any_eq_false]
  intro g hg
  cases hf : P.funcs[g]? with
  | none => simp
  | some fn =>
    have := Array.any_eq_false'.1 h fn (Array.mem_of_getElem? hf)
    simpa using this
theorem goes_by {P : Program} {c : OpenClaim} (h : P.funcs.any Func.goes = false) (hs : c.start = .entering) : false = c.goesBy P := by
  unfold OpenClaim.goesBy Program.goesAt Program.goesFrom
  rw [hs]
  simp only [Bool.or_false]
  cases h2 : P.funcNamed c.func with
  | none => rfl
  | some f => exact (goes_none h f).symm
theorem f_any : Tryz.prog.funcs.any Func.goes = false := by kernel_rfl
theorem f_goes : false = Rows.topAgreesRow.goesBy Tryz.pinned.checked.prog := goes_by f_any rfl
theorem and2 {a b : Bool} (ha : a = true) (hb : b = true) : (a && b) = true := by rw [ha, hb]; rfl
theorem clo : Tryz.prog.closure 5 = [5, 9, 23, 11, 12, 51, 10, 49, 93, 130, 131, 132, 94, 27, 95, 50, 18, 61, 19, 62, 114, 96, 133, 97, 98, 134, 166, 221, 165, 219, 267, 220, 269, 325, 326, 268, 316, 322, 367, 317, 362, 318, 363, 364, 319, 365, 366, 379, 320, 321, 323, 324, 168, 167, 13, 53, 54, 100, 135, 169, 222, 270, 327, 271, 223, 157, 213, 225, 272, 273, 274, 328, 224, 275, 52, 99, 14, 55, 101, 102, 136, 170, 171, 137, 172, 173, 103, 138, 75, 119, 120, 73, 174, 30, 34, 77, 175, 139, 176, 226, 227, 276, 329, 277, 228, 278, 279, 331, 330, 368, 280, 333, 371, 332, 369, 380, 370, 381, 394, 400, 420, 395, 417, 396, 397, 418, 419, 427, 398, 399, 401, 402, 177, 29, 71, 72, 140, 142, 181, 141, 178, 179, 159, 180, 143, 182, 229, 214, 56, 104, 144, 183, 230, 281, 282, 334, 304, 351, 207, 258, 63, 42, 89, 129, 242, 290, 39, 335, 372, 382, 383, 306, 353, 403, 404, 421, 405, 422, 428, 307, 354, 406, 407, 414, 408, 423, 373, 384, 409, 410, 385, 386, 411, 301, 349, 350, 249, 187, 186, 38, 238, 241, 412, 387, 388, 413, 243, 389, 244, 291, 348, 204, 256, 257, 303, 211, 262, 231, 107, 65, 116, 115, 160, 215, 161, 216, 263, 308, 309, 310, 311, 312, 355, 356, 357, 358, 359, 314, 217, 264, 313, 315, 360, 361, 218, 266, 265, 148, 185, 232, 233, 110, 283, 336, 205, 210, 261, 374, 391, 352, 390, 259, 305, 109, 156, 212, 155, 206, 208, 209, 260, 337, 284, 234, 285, 338, 286, 339, 340, 341, 375, 342, 343, 287, 85, 344, 377, 376, 392, 415, 424, 425, 122, 426, 393, 416, 345, 346, 59, 111, 158, 112, 113, 92, 106, 146, 184, 236, 235, 237, 147, 105, 145, 17, 60, 47, 46, 48, 16, 57, 58, 108, 149, 150, 151, 188, 189, 190, 239, 288, 289, 347, 378, 191, 240, 152, 192, 153, 193, 194, 245, 195, 247, 293, 292, 246, 196, 197, 248, 294, 154, 198, 199, 200, 250, 251, 295, 255, 253, 299, 302, 297, 296, 252, 298, 202, 254, 300, 201, 203, 44, 28, 70, 31, 74, 118, 162, 32, 76, 33] := by kernel_rfl
theorem f_in : (Rows.topAgreesRow.inPlace == Tryz.prog.inPlace 5) = true := by
  unfold Program.inPlace
  rw [clo]
  kernel_rfl
theorem un : Tryz.prog.unfollowed 5 = true := by
  unfold Program.unfollowed
  rw [clo]
  kernel_rfl
theorem f_un : (Rows.topAgreesRow.unfollowed == Tryz.prog.unfollowed 5) = true := by rw [un]; rfl
end Go.Proofs.YtamfjgioajmnpaaGreatDoor.topAgrees
namespace Go.Proofs.YtamfjgioajmnpaaGreatDoor.topAgrees
open Go.ChangeShapes Go.WideShapes Go.ChangeAt Go.RowKit Go.Joins Go.Deep
set_option linter.unusedVariables false

theorem f_re : (Rows.topAgreesRow.recurses == Tryz.prog.recurses 5) = true := by
  unfold Program.recurses
  rw [un]
  rfl
theorem f_na : (Rows.topAgreesRow.named == Tryz.prog.varsNamed 5) = true := by
  unfold Program.varsNamed
  rw [clo]
  kernel_rfl
set_option maxRecDepth 100000 in
set_option maxHeartbeats 6400000 in
theorem closed : joinedFacts Tryz.pinned.checked.prog 5 Tryz.f5 (OpenSpec.ofChange Rows.topAgreesSpec).bare Rows.topAgreesRow = true := by
  unfold joinedFacts
  refine and2 (and2 (and2 (and2 (and2 (and2 (and2 (and2 (and2 (and2 (and2 (and2 (and2 (and2 (and2 (and2 (and2 (and2 (and2 (and2 (and2 (and2 (and2 (and2 (and2 (and2 (and2 (and2 (and2 (and2 (and2 ?_ ?_) ?_) ?_) ?_) ?_) ?_) ?_) ?_) f_in) f_un) f_re) f_na) ?_) ?_) ?_) ?_) ?_) ?_) ?_) ?_) ?_) ?_) ?_) ?_) ?_) ?_) ?_) ?_) ?_) ?_) ?_
  all_goals as_aux_lemma => kernel_rfl
end Go.Proofs.YtamfjgioajmnpaaGreatDoor.topAgrees
