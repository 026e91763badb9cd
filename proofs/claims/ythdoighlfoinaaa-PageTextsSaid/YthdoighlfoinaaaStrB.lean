/-
  The kit's contracts for strings.Builder's WriteRune and String and for strings.HasPrefix, at this program's numbers. No condition.
-/
import Derived.Shelf.Strings.BuilderK
import Derived.Shelf.Strings.BuilderRune
import Derived.Shelf.Strings.Prefix
import Derived.Test.YthdoighlfoinaaaCore
namespace Go.Proofs.Ythdoighlfoinaaa
open Go.Shelf Go.RowKit
set_option linter.unusedVariables false

def laysStr_ren : Go.Shelf.Ren := ⟨fun | 169 => 57 | n => n, fun | 0 => 0 | 3 => 3 | 9 => 9 | 37 => 42 | 70 => 93 | 72 => 95 | 127 => 108 | 5 => 5 | n => n, fun | n => n⟩
theorem laysStr : Go.Proofs.Lays.n169 Try.prog laysStr_ren := {
  mixed := by kernel_rfl
  f169 := Try.func57.trans (congrArg some (by kernel_rfl))
  t0 := Try.underlying0
  a0 := Try.isAgg0
  z0 := Try.sizeOf0
  v0 := Try.zeroValue0
  t3 := Try.underlying3
  a3 := Try.isAgg3
  z3 := Try.sizeOf3
  v3 := Try.zeroValue3
  t9 := Try.underlying9
  a9 := Try.isAgg9
  z9 := Try.sizeOf9
  v9 := Try.zeroValue9
  t37 := Try.underlying42
  a37 := Try.isAgg42
  z37 := Try.sizeOf42
  v37 := Try.zeroValue42
  t70 := Try.underlying93
  a70 := Try.isAgg93
  z70 := Try.sizeOf93
  v70 := Try.zeroValue93
  t72 := Try.underlying95
  a72 := Try.isAgg95
  z72 := Try.sizeOf95
  v72 := Try.zeroValue95
  t127 := Try.underlying108
  a127 := Try.isAgg108
  z127 := Try.sizeOf108
  v127 := Try.zeroValue108 }
theorem extraStr : Builder.Extra Try.prog laysStr_ren := {
  sizeBuilder := by kernel_rfl
  liesBuilder := by kernel_rfl
  t5 := Try.underlying5
  a5 := Try.isAgg5
  z5 := Try.sizeOf5
  v5 := Try.zeroValue5
  infoByte := by kernel_rfl
  cellsByte := by kernel_rfl
  sizeByte := by kernel_rfl
  neB5 := by decide }
def laysRune_ren : Go.Shelf.Ren := ⟨fun | 168 => 56 | 240 => 64 | 242 => 65 | 276 => 70 | 278 => 71 | n => n, fun | 0 => 0 | 3 => 3 | 4 => 4 | 5 => 5 | 9 => 9 | 20 => 20 | 21 => 21 | 37 => 42 | 46 => 118 | 51 => 68 | 70 => 93 | 72 => 95 | 75 => 97 | 164 => 112 | 80 => 100 | n => n, fun | n => n⟩
theorem laysRune : Go.Proofs.Lays.n168 Try.prog laysRune_ren := {
  mixed := by kernel_rfl
  f168 := Try.func56.trans (congrArg some (by kernel_rfl))
  f240 := Try.func64.trans (congrArg some (by kernel_rfl))
  f242 := Try.func65.trans (congrArg some (by kernel_rfl))
  f276 := Try.func70.trans (congrArg some (by kernel_rfl))
  f278 := Try.func71.trans (congrArg some (by kernel_rfl))
  t0 := Try.underlying0
  a0 := Try.isAgg0
  z0 := Try.sizeOf0
  v0 := Try.zeroValue0
  t3 := Try.underlying3
  a3 := Try.isAgg3
  z3 := Try.sizeOf3
  v3 := Try.zeroValue3
  t4 := Try.underlying4
  a4 := Try.isAgg4
  z4 := Try.sizeOf4
  v4 := Try.zeroValue4
  t5 := Try.underlying5
  a5 := Try.isAgg5
  z5 := Try.sizeOf5
  v5 := Try.zeroValue5
  t9 := Try.underlying9
  a9 := Try.isAgg9
  z9 := Try.sizeOf9
  v9 := Try.zeroValue9
  t20 := Try.underlying20
  a20 := Try.isAgg20
  z20 := Try.sizeOf20
  v20 := Try.zeroValue20
  t21 := Try.underlying21
  a21 := Try.isAgg21
  z21 := Try.sizeOf21
  v21 := Try.zeroValue21
  t37 := Try.underlying42
  a37 := Try.isAgg42
  z37 := Try.sizeOf42
  v37 := Try.zeroValue42
  t46 := Try.underlying118
  a46 := Try.isAgg118
  z46 := Try.sizeOf118
  v46 := Try.zeroValue118
  t51 := Try.underlying68
  a51 := Try.isAgg68
  z51 := Try.sizeOf68
  v51 := Try.zeroValue68
  t70 := Try.underlying93
  a70 := Try.isAgg93
  z70 := Try.sizeOf93
  v70 := Try.zeroValue93
  t72 := Try.underlying95
  a72 := Try.isAgg95
  z72 := Try.sizeOf95
  v72 := Try.zeroValue95
  t75 := Try.underlying97
  a75 := Try.isAgg97
  z75 := Try.sizeOf97
  v75 := Try.zeroValue97
  t164 := Try.underlying112
  a164 := Try.isAgg112
  z164 := Try.sizeOf112
  v164 := Try.zeroValue112 }
theorem extraRune : Builder.Extra Try.prog laysRune_ren := {
  sizeBuilder := by kernel_rfl
  liesBuilder := by kernel_rfl
  t5 := Try.underlying5
  a5 := Try.isAgg5
  z5 := Try.sizeOf5
  v5 := Try.zeroValue5
  infoByte := by kernel_rfl
  cellsByte := by kernel_rfl
  sizeByte := by kernel_rfl
  neB5 := by decide }
def laysPre_ren : Go.Shelf.Ren := ⟨fun | 99 => 58 | 206 => 66 | n => n, fun | 9 => 9 | 4 => 4 | 3 => 3 | n => n, fun | n => n⟩
theorem laysPre : Go.Proofs.Lays.n99 Try.prog laysPre_ren := {
  mixed := by kernel_rfl
  f99 := Try.func58.trans (congrArg some (by kernel_rfl))
  f206 := Try.func66.trans (congrArg some (by kernel_rfl))
  t9 := Try.underlying9
  a9 := Try.isAgg9
  z9 := Try.sizeOf9
  v9 := Try.zeroValue9
  t4 := Try.underlying4
  a4 := Try.isAgg4
  z4 := Try.sizeOf4
  v4 := Try.zeroValue4
  t3 := Try.underlying3
  a3 := Try.isAgg3
  z3 := Try.sizeOf3
  v3 := Try.zeroValue3 }
theorem string_is (B b : Nat) (l : List UInt8) (w : World) (h : Lib.IsBuilderF 95 5 B b (Lib.byteCells l) w) (hBw : B ≤ w.heap.size) :
    Calls Try.prog 57 #[.pointer (some ⟨b, 0, none⟩)] w fun e w' => e = .returned (.string ⟨l.toArray⟩) ∧ Lib.IsBuilderF 95 5 B b (Lib.byteCells l) w' ∧ Below B w w' ∧ Lib.OthersKept 5 (some b) w w' := Any.Builder_String_any_k laysStr extraStr B b l w h hBw
theorem writeRune_is (B b : Nat) (bs : List Value) (r : Int) (hr0 : -2147483648 ≤ r) (hr1 : r ≤ 2147483647) (w : World) (h : Lib.IsBuilderF 95 5 B b bs w) (hlen : bs.length + 4 ≤ 140737488355328) (hBw : B ≤ w.heap.size) :
    Calls Try.prog 56 #[.pointer (some ⟨b, 0, none⟩), .int .i32 r] w fun e w' => e = .returned (.tuple #[.int .i64 (Lib.runeCells r).length, .nilIface]) ∧ Lib.BuilderAtF 95 5 B b (.pointer (some ⟨b, 0, none⟩)) (bs ++ Lib.runeCells r) w' ∧ Below B w w' ∧ Lib.OthersKept 5 (some b) w w' := Any.Builder_WriteRune_k laysRune extraRune B b bs r hr0 hr1 w h hlen hBw
theorem hasPrefix_is (s p : ByteArray) (w : World) :
    Calls Try.prog 58 #[.string s, .string p] w fun e w' => e = .returned (.bool (Lib.hasPrefix s.data.toList p.data.toList)) ∧ w' = w := Any.strings_HasPrefix laysPre s p w
end Go.Proofs.Ythdoighlfoinaaa
