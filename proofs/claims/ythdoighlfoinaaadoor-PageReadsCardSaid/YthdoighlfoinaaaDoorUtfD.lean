/-
  The kit's contract for utf8.DecodeRuneInString at this program's numbers; its tables as they lie. No condition.
-/
import Derived.Shelf.Unicode.DecodeAny
import Derived.Lib.LaidU8
import Derived.Test.YthdoighlfoinaaaDoorOpen
import Derived.Test.YthdoighlfoinaaaDoorRows
namespace Go.Proofs.YthdoighlfoinaaaDoor
open Go.Shelf Go.RowKit
set_option linter.unusedVariables false

def laysDec_ren : Go.Shelf.Ren := ⟨fun | 197 => 14 | 260 => 27 | n => n, fun | 0 => 0 | 3 => 3 | 4 => 4 | 5 => 5 | 9 => 9 | 21 => 21 | 46 => 82 | 105 => 34 | 119 => 81 | 138 => 84 | 139 => 85 | n => n, fun | 3 => 1 | 4 => 2 | n => n⟩
theorem laysDec : Go.Proofs.Lays.n197 Tryd.prog laysDec_ren := {
  mixed := by kernel_rfl
  f197 := Tryd.func14.trans (congrArg some (by kernel_rfl))
  f260 := Tryd.func27.trans (congrArg some (by kernel_rfl))
  t0 := Tryd.underlying0
  a0 := Tryd.isAgg0
  z0 := Tryd.sizeOf0
  v0 := Tryd.zeroValue0
  t3 := Tryd.underlying3
  a3 := Tryd.isAgg3
  z3 := Tryd.sizeOf3
  v3 := Tryd.zeroValue3
  t4 := Tryd.underlying4
  a4 := Tryd.isAgg4
  z4 := Tryd.sizeOf4
  v4 := Tryd.zeroValue4
  t5 := Tryd.underlying5
  a5 := Tryd.isAgg5
  z5 := Tryd.sizeOf5
  v5 := Tryd.zeroValue5
  t9 := Tryd.underlying9
  a9 := Tryd.isAgg9
  z9 := Tryd.sizeOf9
  v9 := Tryd.zeroValue9
  t21 := Tryd.underlying21
  a21 := Tryd.isAgg21
  z21 := Tryd.sizeOf21
  v21 := Tryd.zeroValue21
  t46 := Tryd.underlying82
  a46 := Tryd.isAgg82
  z46 := Tryd.sizeOf82
  v46 := Tryd.zeroValue82
  t105 := Tryd.underlying34
  a105 := Tryd.isAgg34
  z105 := Tryd.sizeOf34
  v105 := Tryd.zeroValue34
  t119 := Tryd.underlying81
  a119 := Tryd.isAgg81
  z119 := Tryd.sizeOf81
  t138 := Tryd.underlying84
  a138 := Tryd.isAgg84
  z138 := Tryd.sizeOf84
  v138 := Tryd.zeroValue84
  t139 := Tryd.underlying85
  a139 := Tryd.isAgg85
  z139 := Tryd.sizeOf85
  v139 := Tryd.zeroValue85
  g3 := by kernel_rfl
  g4 := by kernel_rfl }
def laysSlow_ren : Go.Shelf.Ren := ⟨fun | 260 => 27 | n => n, fun | 0 => 0 | 3 => 3 | 4 => 4 | 5 => 5 | 9 => 9 | 21 => 21 | 46 => 82 | 119 => 81 | 138 => 84 | 139 => 85 | n => n, fun | 3 => 1 | 4 => 2 | n => n⟩
theorem laysSlow : Go.Proofs.Lays.n260 Tryd.prog laysSlow_ren := {
  mixed := by kernel_rfl
  f260 := Tryd.func27.trans (congrArg some (by kernel_rfl))
  t0 := Tryd.underlying0
  a0 := Tryd.isAgg0
  z0 := Tryd.sizeOf0
  v0 := Tryd.zeroValue0
  t3 := Tryd.underlying3
  a3 := Tryd.isAgg3
  z3 := Tryd.sizeOf3
  v3 := Tryd.zeroValue3
  t4 := Tryd.underlying4
  a4 := Tryd.isAgg4
  z4 := Tryd.sizeOf4
  v4 := Tryd.zeroValue4
  t5 := Tryd.underlying5
  a5 := Tryd.isAgg5
  z5 := Tryd.sizeOf5
  v5 := Tryd.zeroValue5
  t9 := Tryd.underlying9
  a9 := Tryd.isAgg9
  z9 := Tryd.sizeOf9
  v9 := Tryd.zeroValue9
  t21 := Tryd.underlying21
  a21 := Tryd.isAgg21
  z21 := Tryd.sizeOf21
  v21 := Tryd.zeroValue21
  t46 := Tryd.underlying82
  a46 := Tryd.isAgg82
  z46 := Tryd.sizeOf82
  v46 := Tryd.zeroValue82
  t119 := Tryd.underlying81
  a119 := Tryd.isAgg81
  z119 := Tryd.sizeOf81
  t138 := Tryd.underlying84
  a138 := Tryd.isAgg84
  z138 := Tryd.sizeOf84
  v138 := Tryd.zeroValue84
  t139 := Tryd.underlying85
  a139 := Tryd.isAgg85
  z139 := Tryd.sizeOf85
  v139 := Tryd.zeroValue85
  g3 := by kernel_rfl
  g4 := by kernel_rfl }
theorem extraU8 : U8Extra Tryd.prog laysSlow_ren := {
  n3 := by kernel_rfl
  n4 := by kernel_rfl
  y3 := by kernel_rfl
  y4 := by kernel_rfl
  c5 := by kernel_rfl
  c119 := by kernel_rfl
  c138 := by kernel_rfl }
/-- utf8's tables as they lie -/
def TabU (w : World) : Prop := Lib.Utf8Tabs 1 2 w
theorem tabU_of {W : World} (h : laidMetH Tryd.prog [("unicode/utf8.acceptRanges", Rows.laid_unicode_utf8_acceptRanges), ("unicode/utf8.first", Rows.laid_unicode_utf8_first)] W) : TabU W := by
  have e3 : Rows.laid_unicode_utf8_first = Lib.firstData := by kernel_rfl
  have e4 : Rows.laid_unicode_utf8_acceptRanges = Lib.acceptData := by kernel_rfl
  have h' : laidMet Tryd.prog [("unicode/utf8.acceptRanges", Lib.acceptData), ("unicode/utf8.first", Lib.firstData)] W := by rw [← e3, ← e4]; exact h
  exact utf8Tabs_of_reads laysSlow extraU8 (Lib.laidMet.reads h' (by simp)) (Lib.laidMet.reads h' (by simp))
theorem TabU.up {w w' : World} (h : TabU w) (hu : Up w w') : TabU w' :=
  ⟨fun c hc => ((hu.at_ _ (cell_lt (h.1 c hc))).1 c).trans (h.1 c hc), fun i hi => ⟨((hu.at_ _ (cell_lt (h.2 i hi).1)).1 _).trans (h.2 i hi).1, ((hu.at_ _ (cell_lt (h.2 i hi).2)).1 _).trans (h.2 i hi).2⟩⟩
theorem decodeRune_is (s : ByteArray) (w : World) (hT : TabU w) :
    Calls Tryd.prog 14 #[.string s] w fun e w' => e = .returned (.tuple #[.int .i32 (Lib.decodeGo s).1, .int .i64 (Lib.decodeGo s).2]) ∧ Up w w' := Any.utf8_DecodeRuneInString laysDec s w hT
end Go.Proofs.YthdoighlfoinaaaDoor
