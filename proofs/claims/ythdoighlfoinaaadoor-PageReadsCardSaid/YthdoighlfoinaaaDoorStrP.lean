/-
  The kit's contract for strings.HasPrefix, at this program's numbers. No condition.
-/
import Derived.Shelf.Strings.Prefix
import Derived.Test.YthdoighlfoinaaaDoorCore
namespace Go.Proofs.YthdoighlfoinaaaDoor
open Go.Shelf Go.RowKit
set_option linter.unusedVariables false

def laysPre_ren : Go.Shelf.Ren := ⟨fun | 99 => 28 | 206 => 35 | n => n, fun | 9 => 9 | 4 => 4 | 3 => 3 | n => n, fun | n => n⟩
theorem laysPre : Go.Proofs.Lays.n99 Tryd.prog laysPre_ren := {
  mixed := by kernel_rfl
  f99 := Tryd.func28.trans (congrArg some (by kernel_rfl))
  f206 := Tryd.func35.trans (congrArg some (by kernel_rfl))
  t9 := Tryd.underlying9
  a9 := Tryd.isAgg9
  z9 := Tryd.sizeOf9
  v9 := Tryd.zeroValue9
  t4 := Tryd.underlying4
  a4 := Tryd.isAgg4
  z4 := Tryd.sizeOf4
  v4 := Tryd.zeroValue4
  t3 := Tryd.underlying3
  a3 := Tryd.isAgg3
  z3 := Tryd.sizeOf3
  v3 := Tryd.zeroValue3 }
theorem hasPrefix_is (s p : ByteArray) (w : World) :
    Calls Tryd.prog 28 #[.string s, .string p] w fun e w' => e = .returned (.bool (Lib.hasPrefix s.data.toList p.data.toList)) ∧ w' = w := Any.strings_HasPrefix laysPre s p w
end Go.Proofs.YthdoighlfoinaaaDoor
