/-
  No cell of these rows narrows 'for every input' (looked for: loops, veiled, ifaces, maps, wideKeys, modest, calm, conditions, laid).
  DERIVED. THE GIVEN ROWS OF THIS SEAT. 10 by the template 'for every input the law returns true; each argument reads behind the call as it read before'; 0 by the template 'total and deterministic' (their statements: YthdoighlfoinaaaTotals.lean).
  GIVEN WITH THE SEED: the statements are not yours to turn. If you find one false, say at which input.
  Laid BY PROGRAM, IN A SANDBOX (cutbox-rows.mjs): the forced cells as the released guide's own fill.sh prints them over the translation 1b7ff2e9af20fe57… (all of the seat's roots in one cut). By AI agents, Wed Nov 11 2026. No macro, syntax, notation, axiom, sorry.
-/
import Derived.Test.YthdoighlfoinaaaChecked
import GoSem.Claim
import GoSem.ClaimJoined
import GoSem.ClaimMapViews
import Derived.JoinedTies
import Derived.KernelRfl
namespace Go.Proofs.Ythdoighlfoinaaa
/- THE CELL 'sum', in the pinned program and in every row, IS THE sha256 OF THE DUMP (.gsa) THAT YthdoighlfoinaaaProg.lean LOADS. Nothing in Lean hashes anything: it is a label: what it is worth is what the hold of that sum in a sandbox is worth. -/
noncomputable def Try.pinned : Pinned := { name := "ythdoighlfoinaaa", sum := "1b7ff2e9af20fe5775c92044cf4e6147d5563db3e5f7a203bfe33c58a0735026", checked := Try.checked }
namespace Rows
def none {H : Type} : Left H := { results := [], args := [] }

/-- 'vitrinelaw01.PageCodes': WHATEVER THE INPUT: true; the input reads as it did. -/
def pageCodesSpec : ChangeSpec := { name := "pageCodes", fn := fun _ => fun
  | [d1, d2] => { results := [.lit (.bool true)], args := [d1, d2] }
  | _ => none }
def pageCodesRow : OpenClaim := { program := "ythdoighlfoinaaa", sum := "1b7ff2e9af20fe5775c92044cf4e6147d5563db3e5f7a203bfe33c58a0735026", func := "vitrine/vitrinelaw01.PageCodes", spec := "pageCodes", inPlace := ["sync/atomic.LoadUint32", "(*internal/sync.Mutex).Lock", "internal/race.Disable", "sync/atomic.CompareAndSwapInt32", "internal/race.Enable", "internal/race.Acquire", "(*internal/sync.Mutex).lockSlow", "internal/sync.runtime_canSpin", "internal/sync.runtime_doSpin", "internal/sync.throw", "internal/sync.runtime_nanotime", "internal/sync.runtime_SemacquireMutex", "sync/atomic.AddInt32", "(*internal/sync.Mutex).Unlock", "internal/race.ReleaseMerge", "(*internal/sync.Mutex).unlockSlow", "internal/sync.fatal", "internal/sync.runtime_Semrelease", "sync/atomic.StoreUint32"], unfollowed := true, recurses := true, apart := false }
def PageCodesSaid : Prop := pageCodesRow.holds Try.pinned (OpenSpec.ofChange pageCodesSpec)

/-- ITS FALSE NEIGHBOUR: 'it returns false'. Refute it at one input. -/
def pageCodesWrong : ChangeSpec := { name := "pageCodes", fn := fun _ => fun
  | [d1, d2] => { results := [.lit (.bool false)], args := [d1, d2] }
  | _ => none }
def PageCodesWrongFalsely : Prop := pageCodesRow.holds Try.pinned (OpenSpec.ofChange pageCodesWrong)

/-- 'vitrinelaw01.PageCommon': WHATEVER THE INPUT: true; the input reads as it did. -/
def pageCommonSpec : ChangeSpec := { name := "pageCommon", fn := fun _ => fun
  | [d1, d2] => { results := [.lit (.bool true)], args := [d1, d2] }
  | _ => none }
def pageCommonRow : OpenClaim := { program := "ythdoighlfoinaaa", sum := "1b7ff2e9af20fe5775c92044cf4e6147d5563db3e5f7a203bfe33c58a0735026", func := "vitrine/vitrinelaw01.PageCommon", spec := "pageCommon", inPlace := ["sync/atomic.LoadUint32", "(*internal/sync.Mutex).Lock", "internal/race.Disable", "sync/atomic.CompareAndSwapInt32", "internal/race.Enable", "internal/race.Acquire", "(*internal/sync.Mutex).lockSlow", "internal/sync.runtime_canSpin", "internal/sync.runtime_doSpin", "internal/sync.throw", "internal/sync.runtime_nanotime", "internal/sync.runtime_SemacquireMutex", "sync/atomic.AddInt32", "(*internal/sync.Mutex).Unlock", "internal/race.ReleaseMerge", "(*internal/sync.Mutex).unlockSlow", "internal/sync.fatal", "internal/sync.runtime_Semrelease", "sync/atomic.StoreUint32"], unfollowed := true, recurses := true, apart := false }
def PageCommonSaid : Prop := pageCommonRow.holds Try.pinned (OpenSpec.ofChange pageCommonSpec)

/-- ITS FALSE NEIGHBOUR: 'it returns false'. Refute it at one input. -/
def pageCommonWrong : ChangeSpec := { name := "pageCommon", fn := fun _ => fun
  | [d1, d2] => { results := [.lit (.bool false)], args := [d1, d2] }
  | _ => none }
def PageCommonWrongFalsely : Prop := pageCommonRow.holds Try.pinned (OpenSpec.ofChange pageCommonWrong)

/-- 'vitrinelaw01.PageSigns': WHATEVER THE INPUT: true; the input reads as it did. -/
def pageSignsSpec : ChangeSpec := { name := "pageSigns", fn := fun _ => fun
  | [d] => { results := [.lit (.bool true)], args := [d] }
  | _ => none }
def pageSignsRow : OpenClaim := { program := "ythdoighlfoinaaa", sum := "1b7ff2e9af20fe5775c92044cf4e6147d5563db3e5f7a203bfe33c58a0735026", func := "vitrine/vitrinelaw01.PageSigns", spec := "pageSigns", inPlace := ["sync/atomic.LoadUint32", "(*internal/sync.Mutex).Lock", "internal/race.Disable", "sync/atomic.CompareAndSwapInt32", "internal/race.Enable", "internal/race.Acquire", "(*internal/sync.Mutex).lockSlow", "internal/sync.runtime_canSpin", "internal/sync.runtime_doSpin", "internal/sync.throw", "internal/sync.runtime_nanotime", "internal/sync.runtime_SemacquireMutex", "sync/atomic.AddInt32", "(*internal/sync.Mutex).Unlock", "internal/race.ReleaseMerge", "(*internal/sync.Mutex).unlockSlow", "internal/sync.fatal", "internal/sync.runtime_Semrelease", "sync/atomic.StoreUint32"], unfollowed := true, recurses := true, apart := false }
def PageSignsSaid : Prop := pageSignsRow.holds Try.pinned (OpenSpec.ofChange pageSignsSpec)

/-- ITS FALSE NEIGHBOUR: 'it returns false'. Refute it at one input. -/
def pageSignsWrong : ChangeSpec := { name := "pageSigns", fn := fun _ => fun
  | [d] => { results := [.lit (.bool false)], args := [d] }
  | _ => none }
def PageSignsWrongFalsely : Prop := pageSignsRow.holds Try.pinned (OpenSpec.ofChange pageSignsWrong)

/-- 'vitrinelaw01.PageUppers': WHATEVER THE INPUT: true; the input reads as it did. -/
def pageUppersSpec : ChangeSpec := { name := "pageUppers", fn := fun _ => fun
  | [d] => { results := [.lit (.bool true)], args := [d] }
  | _ => none }
def pageUppersRow : OpenClaim := { program := "ythdoighlfoinaaa", sum := "1b7ff2e9af20fe5775c92044cf4e6147d5563db3e5f7a203bfe33c58a0735026", func := "vitrine/vitrinelaw01.PageUppers", spec := "pageUppers", inPlace := ["sync/atomic.LoadUint32", "(*internal/sync.Mutex).Lock", "internal/race.Disable", "sync/atomic.CompareAndSwapInt32", "internal/race.Enable", "internal/race.Acquire", "(*internal/sync.Mutex).lockSlow", "internal/sync.runtime_canSpin", "internal/sync.runtime_doSpin", "internal/sync.throw", "internal/sync.runtime_nanotime", "internal/sync.runtime_SemacquireMutex", "sync/atomic.AddInt32", "(*internal/sync.Mutex).Unlock", "internal/race.ReleaseMerge", "(*internal/sync.Mutex).unlockSlow", "internal/sync.fatal", "internal/sync.runtime_Semrelease", "sync/atomic.StoreUint32"], unfollowed := true, recurses := true, apart := false }
def PageUppersSaid : Prop := pageUppersRow.holds Try.pinned (OpenSpec.ofChange pageUppersSpec)

/-- ITS FALSE NEIGHBOUR: 'it returns false'. Refute it at one input. -/
def pageUppersWrong : ChangeSpec := { name := "pageUppers", fn := fun _ => fun
  | [d] => { results := [.lit (.bool false)], args := [d] }
  | _ => none }
def PageUppersWrongFalsely : Prop := pageUppersRow.holds Try.pinned (OpenSpec.ofChange pageUppersWrong)

/-- 'vitrinelaw01.PageEscapes': WHATEVER THE INPUT: true; the input reads as it did. -/
def pageEscapesSpec : ChangeSpec := { name := "pageEscapes", fn := fun _ => fun
  | [d1, d2] => { results := [.lit (.bool true)], args := [d1, d2] }
  | _ => none }
def pageEscapesRow : OpenClaim := { program := "ythdoighlfoinaaa", sum := "1b7ff2e9af20fe5775c92044cf4e6147d5563db3e5f7a203bfe33c58a0735026", func := "vitrine/vitrinelaw01.PageEscapes", spec := "pageEscapes", inPlace := ["sync/atomic.LoadUint32", "(*internal/sync.Mutex).Lock", "internal/race.Disable", "sync/atomic.CompareAndSwapInt32", "internal/race.Enable", "internal/race.Acquire", "(*internal/sync.Mutex).lockSlow", "internal/sync.runtime_canSpin", "internal/sync.runtime_doSpin", "internal/sync.throw", "internal/sync.runtime_nanotime", "internal/sync.runtime_SemacquireMutex", "sync/atomic.AddInt32", "(*internal/sync.Mutex).Unlock", "internal/race.ReleaseMerge", "(*internal/sync.Mutex).unlockSlow", "internal/sync.fatal", "internal/sync.runtime_Semrelease", "sync/atomic.StoreUint32"], unfollowed := true, recurses := true, apart := false }
def PageEscapesSaid : Prop := pageEscapesRow.holds Try.pinned (OpenSpec.ofChange pageEscapesSpec)

/-- ITS FALSE NEIGHBOUR: 'it returns false'. Refute it at one input. -/
def pageEscapesWrong : ChangeSpec := { name := "pageEscapes", fn := fun _ => fun
  | [d1, d2] => { results := [.lit (.bool false)], args := [d1, d2] }
  | _ => none }
def PageEscapesWrongFalsely : Prop := pageEscapesRow.holds Try.pinned (OpenSpec.ofChange pageEscapesWrong)

/-- 'vitrinelaw02.ClassAlone': WHATEVER THE INPUT: true; the input reads as it did. -/
def classAloneSpec : ChangeSpec := { name := "classAlone", fn := fun _ => fun
  | [d1, d2] => { results := [.lit (.bool true)], args := [d1, d2] }
  | _ => none }
def classAloneRow : OpenClaim := { program := "ythdoighlfoinaaa", sum := "1b7ff2e9af20fe5775c92044cf4e6147d5563db3e5f7a203bfe33c58a0735026", func := "vitrine/vitrinelaw02.ClassAlone", spec := "classAlone", inPlace := ["sync/atomic.LoadUint32", "(*internal/sync.Mutex).Lock", "internal/race.Disable", "sync/atomic.CompareAndSwapInt32", "internal/race.Enable", "internal/race.Acquire", "(*internal/sync.Mutex).lockSlow", "internal/sync.runtime_canSpin", "internal/sync.runtime_doSpin", "internal/sync.throw", "internal/sync.runtime_nanotime", "internal/sync.runtime_SemacquireMutex", "sync/atomic.AddInt32", "(*internal/sync.Mutex).Unlock", "internal/race.ReleaseMerge", "(*internal/sync.Mutex).unlockSlow", "internal/sync.fatal", "internal/sync.runtime_Semrelease", "sync/atomic.StoreUint32"], unfollowed := true, recurses := true, apart := false }
def ClassAloneSaid : Prop := classAloneRow.holds Try.pinned (OpenSpec.ofChange classAloneSpec)

/-- ITS FALSE NEIGHBOUR: 'it returns false'. Refute it at one input. -/
def classAloneWrong : ChangeSpec := { name := "classAlone", fn := fun _ => fun
  | [d1, d2] => { results := [.lit (.bool false)], args := [d1, d2] }
  | _ => none }
def ClassAloneWrongFalsely : Prop := classAloneRow.holds Try.pinned (OpenSpec.ofChange classAloneWrong)

/-- 'vitrinelaw02.ClassCounts': WHATEVER THE INPUT: true; the input reads as it did. -/
def classCountsSpec : ChangeSpec := { name := "classCounts", fn := fun _ => fun
  | [d1, d2] => { results := [.lit (.bool true)], args := [d1, d2] }
  | _ => none }
def classCountsRow : OpenClaim := { program := "ythdoighlfoinaaa", sum := "1b7ff2e9af20fe5775c92044cf4e6147d5563db3e5f7a203bfe33c58a0735026", func := "vitrine/vitrinelaw02.ClassCounts", spec := "classCounts", inPlace := ["sync/atomic.LoadUint32", "(*internal/sync.Mutex).Lock", "internal/race.Disable", "sync/atomic.CompareAndSwapInt32", "internal/race.Enable", "internal/race.Acquire", "(*internal/sync.Mutex).lockSlow", "internal/sync.runtime_canSpin", "internal/sync.runtime_doSpin", "internal/sync.throw", "internal/sync.runtime_nanotime", "internal/sync.runtime_SemacquireMutex", "sync/atomic.AddInt32", "(*internal/sync.Mutex).Unlock", "internal/race.ReleaseMerge", "(*internal/sync.Mutex).unlockSlow", "internal/sync.fatal", "internal/sync.runtime_Semrelease", "sync/atomic.StoreUint32"], unfollowed := true, recurses := true, apart := false }
def ClassCountsSaid : Prop := classCountsRow.holds Try.pinned (OpenSpec.ofChange classCountsSpec)

/-- ITS FALSE NEIGHBOUR: 'it returns false'. Refute it at one input. -/
def classCountsWrong : ChangeSpec := { name := "classCounts", fn := fun _ => fun
  | [d1, d2] => { results := [.lit (.bool false)], args := [d1, d2] }
  | _ => none }
def ClassCountsWrongFalsely : Prop := classCountsRow.holds Try.pinned (OpenSpec.ofChange classCountsWrong)

/-- 'vitrinelaw02.ClassUses': WHATEVER THE INPUT: true; the input reads as it did. -/
def classUsesSpec : ChangeSpec := { name := "classUses", fn := fun _ => fun
  | [d] => { results := [.lit (.bool true)], args := [d] }
  | _ => none }
def classUsesRow : OpenClaim := { program := "ythdoighlfoinaaa", sum := "1b7ff2e9af20fe5775c92044cf4e6147d5563db3e5f7a203bfe33c58a0735026", func := "vitrine/vitrinelaw02.ClassUses", spec := "classUses", inPlace := ["sync/atomic.LoadUint32", "(*internal/sync.Mutex).Lock", "internal/race.Disable", "sync/atomic.CompareAndSwapInt32", "internal/race.Enable", "internal/race.Acquire", "(*internal/sync.Mutex).lockSlow", "internal/sync.runtime_canSpin", "internal/sync.runtime_doSpin", "internal/sync.throw", "internal/sync.runtime_nanotime", "internal/sync.runtime_SemacquireMutex", "sync/atomic.AddInt32", "(*internal/sync.Mutex).Unlock", "internal/race.ReleaseMerge", "(*internal/sync.Mutex).unlockSlow", "internal/sync.fatal", "internal/sync.runtime_Semrelease", "sync/atomic.StoreUint32"], unfollowed := true, recurses := true, apart := false }
def ClassUsesSaid : Prop := classUsesRow.holds Try.pinned (OpenSpec.ofChange classUsesSpec)

/-- ITS FALSE NEIGHBOUR: 'it returns false'. Refute it at one input. -/
def classUsesWrong : ChangeSpec := { name := "classUses", fn := fun _ => fun
  | [d] => { results := [.lit (.bool false)], args := [d] }
  | _ => none }
def ClassUsesWrongFalsely : Prop := classUsesRow.holds Try.pinned (OpenSpec.ofChange classUsesWrong)

/-- 'vitrinelaw01.PageTexts': WHATEVER THE INPUT: true; the input reads as it did. -/
def pageTextsSpec : ChangeSpec := { name := "pageTexts", fn := fun _ => fun
  | [d1, d2] => { results := [.lit (.bool true)], args := [d1, d2] }
  | _ => none }
def pageTextsRow : OpenClaim := { program := "ythdoighlfoinaaa", sum := "1b7ff2e9af20fe5775c92044cf4e6147d5563db3e5f7a203bfe33c58a0735026", func := "vitrine/vitrinelaw01.PageTexts", spec := "pageTexts", inPlace := ["sync/atomic.LoadUint32", "(*internal/sync.Mutex).Lock", "internal/race.Disable", "sync/atomic.CompareAndSwapInt32", "internal/race.Enable", "internal/race.Acquire", "(*internal/sync.Mutex).lockSlow", "internal/sync.runtime_canSpin", "internal/sync.runtime_doSpin", "internal/sync.throw", "internal/sync.runtime_nanotime", "internal/sync.runtime_SemacquireMutex", "sync/atomic.AddInt32", "(*internal/sync.Mutex).Unlock", "internal/race.ReleaseMerge", "(*internal/sync.Mutex).unlockSlow", "internal/sync.fatal", "internal/sync.runtime_Semrelease", "sync/atomic.StoreUint32", "internal/abi.NoEscape"], unfollowed := true, recurses := true, apart := false }
def PageTextsSaid : Prop := pageTextsRow.holds Try.pinned (OpenSpec.ofChange pageTextsSpec)

/-- ITS FALSE NEIGHBOUR: 'it returns false'. Refute it at one input. -/
def pageTextsWrong : ChangeSpec := { name := "pageTexts", fn := fun _ => fun
  | [d1, d2] => { results := [.lit (.bool false)], args := [d1, d2] }
  | _ => none }
def PageTextsWrongFalsely : Prop := pageTextsRow.holds Try.pinned (OpenSpec.ofChange pageTextsWrong)

/-- 'vitrinelaw01.PageNumbers': WHATEVER THE INPUT: true; the input reads as it did. -/
def pageNumbersSpec : ChangeSpec := { name := "pageNumbers", fn := fun _ => fun
  | [d1, d2] => { results := [.lit (.bool true)], args := [d1, d2] }
  | _ => none }
def pageNumbersRow : OpenClaim := { program := "ythdoighlfoinaaa", sum := "1b7ff2e9af20fe5775c92044cf4e6147d5563db3e5f7a203bfe33c58a0735026", func := "vitrine/vitrinelaw01.PageNumbers", spec := "pageNumbers", inPlace := ["sync/atomic.LoadUint32", "(*internal/sync.Mutex).Lock", "internal/race.Disable", "sync/atomic.CompareAndSwapInt32", "internal/race.Enable", "internal/race.Acquire", "(*internal/sync.Mutex).lockSlow", "internal/sync.runtime_canSpin", "internal/sync.runtime_doSpin", "internal/sync.throw", "internal/sync.runtime_nanotime", "internal/sync.runtime_SemacquireMutex", "sync/atomic.AddInt32", "(*internal/sync.Mutex).Unlock", "internal/race.ReleaseMerge", "(*internal/sync.Mutex).unlockSlow", "internal/sync.fatal", "internal/sync.runtime_Semrelease", "sync/atomic.StoreUint32", "internal/abi.NoEscape"], unfollowed := true, recurses := true, apart := false }
def PageNumbersSaid : Prop := pageNumbersRow.holds Try.pinned (OpenSpec.ofChange pageNumbersSpec)

/-- ITS FALSE NEIGHBOUR: 'it returns false'. Refute it at one input. -/
def pageNumbersWrong : ChangeSpec := { name := "pageNumbers", fn := fun _ => fun
  | [d1, d2] => { results := [.lit (.bool false)], args := [d1, d2] }
  | _ => none }
def PageNumbersWrongFalsely : Prop := pageNumbersRow.holds Try.pinned (OpenSpec.ofChange pageNumbersWrong)

/- THE SECOND FORM. 'bulk': how many values and letters a reading holds, each counted each time it is reached (what is shared counts as often as it is met; a slice's spare places count too). A statement '..UptoSaid' is the law's where the arguments, and the package variables that the reading takes, are together of bulk at most 1048576: NARROWER than '..Said'. Prove '..Said' where nothing that the law and all that it calls make is longer than what came in: it says more and counts as full. Else prove '..UptoSaid'. A law counts once. -/
mutual
def uptoBulk {H : Type} : DataW H → Nat
  | .lit (.string bytes) => bytes.length + 1
  | .lit _ => 1
  | .nil => 1
  | .ptr d => uptoBulk d + 1
  | .slice elems spare => uptoBulkAll elems + uptoBulkAll spare + 1
  | .agg parts => uptoBulkAll parts + 1
  | .iface _ d => uptoBulk d + 1
  | .map entries => uptoBulkEntries entries + 1
  | .held _ => 1
def uptoBulkAll {H : Type} : List (DataW H) → Nat
  | [] => 0
  | d :: r => uptoBulk d + uptoBulkAll r
def uptoBulkEntries {H : Type} : List (Lit × DataW H) → Nat
  | [] => 0
  | x :: r => uptoBulkEntry x + uptoBulkEntries r
def uptoBulkEntry {H : Type} : Lit × DataW H → Nat
  | (.string bytes, d) => bytes.length + uptoBulk d + 1
  | (_, d) => uptoBulk d + 1
 end
def uptoSmall : (H : Type) → List (DataW H) → Bool := fun _ ds => decide (uptoBulkAll ds ≤ 1048576)
def OpenSpec.upto (s : _root_.Go.ChangeSpec) : _root_.Go.OpenSpec := { _root_.Go.OpenSpec.ofChange s with cond := some uptoSmall }

/-- 'vitrinelaw01.PageCodes', WHERE WHAT IT READS IS OF BULK AT MOST 1048576: true; the input reads as it did. -/
def pageCodesUptoRow : OpenClaim := { program := "ythdoighlfoinaaa", sum := "1b7ff2e9af20fe5775c92044cf4e6147d5563db3e5f7a203bfe33c58a0735026", func := "vitrine/vitrinelaw01.PageCodes", spec := "pageCodes", inPlace := ["sync/atomic.LoadUint32", "(*internal/sync.Mutex).Lock", "internal/race.Disable", "sync/atomic.CompareAndSwapInt32", "internal/race.Enable", "internal/race.Acquire", "(*internal/sync.Mutex).lockSlow", "internal/sync.runtime_canSpin", "internal/sync.runtime_doSpin", "internal/sync.throw", "internal/sync.runtime_nanotime", "internal/sync.runtime_SemacquireMutex", "sync/atomic.AddInt32", "(*internal/sync.Mutex).Unlock", "internal/race.ReleaseMerge", "(*internal/sync.Mutex).unlockSlow", "internal/sync.fatal", "internal/sync.runtime_Semrelease", "sync/atomic.StoreUint32"], unfollowed := true, recurses := true, apart := false, narrowed := true }
def PageCodesUptoSaid : Prop := pageCodesUptoRow.holds Try.pinned (OpenSpec.upto pageCodesSpec)

/-- 'vitrinelaw01.PageCommon', WHERE WHAT IT READS IS OF BULK AT MOST 1048576: true; the input reads as it did. -/
def pageCommonUptoRow : OpenClaim := { program := "ythdoighlfoinaaa", sum := "1b7ff2e9af20fe5775c92044cf4e6147d5563db3e5f7a203bfe33c58a0735026", func := "vitrine/vitrinelaw01.PageCommon", spec := "pageCommon", inPlace := ["sync/atomic.LoadUint32", "(*internal/sync.Mutex).Lock", "internal/race.Disable", "sync/atomic.CompareAndSwapInt32", "internal/race.Enable", "internal/race.Acquire", "(*internal/sync.Mutex).lockSlow", "internal/sync.runtime_canSpin", "internal/sync.runtime_doSpin", "internal/sync.throw", "internal/sync.runtime_nanotime", "internal/sync.runtime_SemacquireMutex", "sync/atomic.AddInt32", "(*internal/sync.Mutex).Unlock", "internal/race.ReleaseMerge", "(*internal/sync.Mutex).unlockSlow", "internal/sync.fatal", "internal/sync.runtime_Semrelease", "sync/atomic.StoreUint32"], unfollowed := true, recurses := true, apart := false, narrowed := true }
def PageCommonUptoSaid : Prop := pageCommonUptoRow.holds Try.pinned (OpenSpec.upto pageCommonSpec)

/-- 'vitrinelaw01.PageSigns', WHERE WHAT IT READS IS OF BULK AT MOST 1048576: true; the input reads as it did. -/
def pageSignsUptoRow : OpenClaim := { program := "ythdoighlfoinaaa", sum := "1b7ff2e9af20fe5775c92044cf4e6147d5563db3e5f7a203bfe33c58a0735026", func := "vitrine/vitrinelaw01.PageSigns", spec := "pageSigns", inPlace := ["sync/atomic.LoadUint32", "(*internal/sync.Mutex).Lock", "internal/race.Disable", "sync/atomic.CompareAndSwapInt32", "internal/race.Enable", "internal/race.Acquire", "(*internal/sync.Mutex).lockSlow", "internal/sync.runtime_canSpin", "internal/sync.runtime_doSpin", "internal/sync.throw", "internal/sync.runtime_nanotime", "internal/sync.runtime_SemacquireMutex", "sync/atomic.AddInt32", "(*internal/sync.Mutex).Unlock", "internal/race.ReleaseMerge", "(*internal/sync.Mutex).unlockSlow", "internal/sync.fatal", "internal/sync.runtime_Semrelease", "sync/atomic.StoreUint32"], unfollowed := true, recurses := true, apart := false, narrowed := true }
def PageSignsUptoSaid : Prop := pageSignsUptoRow.holds Try.pinned (OpenSpec.upto pageSignsSpec)

/-- 'vitrinelaw01.PageUppers', WHERE WHAT IT READS IS OF BULK AT MOST 1048576: true; the input reads as it did. -/
def pageUppersUptoRow : OpenClaim := { program := "ythdoighlfoinaaa", sum := "1b7ff2e9af20fe5775c92044cf4e6147d5563db3e5f7a203bfe33c58a0735026", func := "vitrine/vitrinelaw01.PageUppers", spec := "pageUppers", inPlace := ["sync/atomic.LoadUint32", "(*internal/sync.Mutex).Lock", "internal/race.Disable", "sync/atomic.CompareAndSwapInt32", "internal/race.Enable", "internal/race.Acquire", "(*internal/sync.Mutex).lockSlow", "internal/sync.runtime_canSpin", "internal/sync.runtime_doSpin", "internal/sync.throw", "internal/sync.runtime_nanotime", "internal/sync.runtime_SemacquireMutex", "sync/atomic.AddInt32", "(*internal/sync.Mutex).Unlock", "internal/race.ReleaseMerge", "(*internal/sync.Mutex).unlockSlow", "internal/sync.fatal", "internal/sync.runtime_Semrelease", "sync/atomic.StoreUint32"], unfollowed := true, recurses := true, apart := false, narrowed := true }
def PageUppersUptoSaid : Prop := pageUppersUptoRow.holds Try.pinned (OpenSpec.upto pageUppersSpec)

/-- 'vitrinelaw01.PageEscapes', WHERE WHAT IT READS IS OF BULK AT MOST 1048576: true; the input reads as it did. -/
def pageEscapesUptoRow : OpenClaim := { program := "ythdoighlfoinaaa", sum := "1b7ff2e9af20fe5775c92044cf4e6147d5563db3e5f7a203bfe33c58a0735026", func := "vitrine/vitrinelaw01.PageEscapes", spec := "pageEscapes", inPlace := ["sync/atomic.LoadUint32", "(*internal/sync.Mutex).Lock", "internal/race.Disable", "sync/atomic.CompareAndSwapInt32", "internal/race.Enable", "internal/race.Acquire", "(*internal/sync.Mutex).lockSlow", "internal/sync.runtime_canSpin", "internal/sync.runtime_doSpin", "internal/sync.throw", "internal/sync.runtime_nanotime", "internal/sync.runtime_SemacquireMutex", "sync/atomic.AddInt32", "(*internal/sync.Mutex).Unlock", "internal/race.ReleaseMerge", "(*internal/sync.Mutex).unlockSlow", "internal/sync.fatal", "internal/sync.runtime_Semrelease", "sync/atomic.StoreUint32"], unfollowed := true, recurses := true, apart := false, narrowed := true }
def PageEscapesUptoSaid : Prop := pageEscapesUptoRow.holds Try.pinned (OpenSpec.upto pageEscapesSpec)

/-- 'vitrinelaw02.ClassAlone', WHERE WHAT IT READS IS OF BULK AT MOST 1048576: true; the input reads as it did. -/
def classAloneUptoRow : OpenClaim := { program := "ythdoighlfoinaaa", sum := "1b7ff2e9af20fe5775c92044cf4e6147d5563db3e5f7a203bfe33c58a0735026", func := "vitrine/vitrinelaw02.ClassAlone", spec := "classAlone", inPlace := ["sync/atomic.LoadUint32", "(*internal/sync.Mutex).Lock", "internal/race.Disable", "sync/atomic.CompareAndSwapInt32", "internal/race.Enable", "internal/race.Acquire", "(*internal/sync.Mutex).lockSlow", "internal/sync.runtime_canSpin", "internal/sync.runtime_doSpin", "internal/sync.throw", "internal/sync.runtime_nanotime", "internal/sync.runtime_SemacquireMutex", "sync/atomic.AddInt32", "(*internal/sync.Mutex).Unlock", "internal/race.ReleaseMerge", "(*internal/sync.Mutex).unlockSlow", "internal/sync.fatal", "internal/sync.runtime_Semrelease", "sync/atomic.StoreUint32"], unfollowed := true, recurses := true, apart := false, narrowed := true }
def ClassAloneUptoSaid : Prop := classAloneUptoRow.holds Try.pinned (OpenSpec.upto classAloneSpec)

/-- 'vitrinelaw02.ClassCounts', WHERE WHAT IT READS IS OF BULK AT MOST 1048576: true; the input reads as it did. -/
def classCountsUptoRow : OpenClaim := { program := "ythdoighlfoinaaa", sum := "1b7ff2e9af20fe5775c92044cf4e6147d5563db3e5f7a203bfe33c58a0735026", func := "vitrine/vitrinelaw02.ClassCounts", spec := "classCounts", inPlace := ["sync/atomic.LoadUint32", "(*internal/sync.Mutex).Lock", "internal/race.Disable", "sync/atomic.CompareAndSwapInt32", "internal/race.Enable", "internal/race.Acquire", "(*internal/sync.Mutex).lockSlow", "internal/sync.runtime_canSpin", "internal/sync.runtime_doSpin", "internal/sync.throw", "internal/sync.runtime_nanotime", "internal/sync.runtime_SemacquireMutex", "sync/atomic.AddInt32", "(*internal/sync.Mutex).Unlock", "internal/race.ReleaseMerge", "(*internal/sync.Mutex).unlockSlow", "internal/sync.fatal", "internal/sync.runtime_Semrelease", "sync/atomic.StoreUint32"], unfollowed := true, recurses := true, apart := false, narrowed := true }
def ClassCountsUptoSaid : Prop := classCountsUptoRow.holds Try.pinned (OpenSpec.upto classCountsSpec)

/-- 'vitrinelaw02.ClassUses', WHERE WHAT IT READS IS OF BULK AT MOST 1048576: true; the input reads as it did. -/
def classUsesUptoRow : OpenClaim := { program := "ythdoighlfoinaaa", sum := "1b7ff2e9af20fe5775c92044cf4e6147d5563db3e5f7a203bfe33c58a0735026", func := "vitrine/vitrinelaw02.ClassUses", spec := "classUses", inPlace := ["sync/atomic.LoadUint32", "(*internal/sync.Mutex).Lock", "internal/race.Disable", "sync/atomic.CompareAndSwapInt32", "internal/race.Enable", "internal/race.Acquire", "(*internal/sync.Mutex).lockSlow", "internal/sync.runtime_canSpin", "internal/sync.runtime_doSpin", "internal/sync.throw", "internal/sync.runtime_nanotime", "internal/sync.runtime_SemacquireMutex", "sync/atomic.AddInt32", "(*internal/sync.Mutex).Unlock", "internal/race.ReleaseMerge", "(*internal/sync.Mutex).unlockSlow", "internal/sync.fatal", "internal/sync.runtime_Semrelease", "sync/atomic.StoreUint32"], unfollowed := true, recurses := true, apart := false, narrowed := true }
def ClassUsesUptoSaid : Prop := classUsesUptoRow.holds Try.pinned (OpenSpec.upto classUsesSpec)

/-- 'vitrinelaw01.PageTexts', WHERE WHAT IT READS IS OF BULK AT MOST 1048576: true; the input reads as it did. -/
def pageTextsUptoRow : OpenClaim := { program := "ythdoighlfoinaaa", sum := "1b7ff2e9af20fe5775c92044cf4e6147d5563db3e5f7a203bfe33c58a0735026", func := "vitrine/vitrinelaw01.PageTexts", spec := "pageTexts", inPlace := ["sync/atomic.LoadUint32", "(*internal/sync.Mutex).Lock", "internal/race.Disable", "sync/atomic.CompareAndSwapInt32", "internal/race.Enable", "internal/race.Acquire", "(*internal/sync.Mutex).lockSlow", "internal/sync.runtime_canSpin", "internal/sync.runtime_doSpin", "internal/sync.throw", "internal/sync.runtime_nanotime", "internal/sync.runtime_SemacquireMutex", "sync/atomic.AddInt32", "(*internal/sync.Mutex).Unlock", "internal/race.ReleaseMerge", "(*internal/sync.Mutex).unlockSlow", "internal/sync.fatal", "internal/sync.runtime_Semrelease", "sync/atomic.StoreUint32", "internal/abi.NoEscape"], unfollowed := true, recurses := true, apart := false, narrowed := true }
def PageTextsUptoSaid : Prop := pageTextsUptoRow.holds Try.pinned (OpenSpec.upto pageTextsSpec)

/-- 'vitrinelaw01.PageNumbers', WHERE WHAT IT READS IS OF BULK AT MOST 1048576: true; the input reads as it did. -/
def pageNumbersUptoRow : OpenClaim := { program := "ythdoighlfoinaaa", sum := "1b7ff2e9af20fe5775c92044cf4e6147d5563db3e5f7a203bfe33c58a0735026", func := "vitrine/vitrinelaw01.PageNumbers", spec := "pageNumbers", inPlace := ["sync/atomic.LoadUint32", "(*internal/sync.Mutex).Lock", "internal/race.Disable", "sync/atomic.CompareAndSwapInt32", "internal/race.Enable", "internal/race.Acquire", "(*internal/sync.Mutex).lockSlow", "internal/sync.runtime_canSpin", "internal/sync.runtime_doSpin", "internal/sync.throw", "internal/sync.runtime_nanotime", "internal/sync.runtime_SemacquireMutex", "sync/atomic.AddInt32", "(*internal/sync.Mutex).Unlock", "internal/race.ReleaseMerge", "(*internal/sync.Mutex).unlockSlow", "internal/sync.fatal", "internal/sync.runtime_Semrelease", "sync/atomic.StoreUint32", "internal/abi.NoEscape"], unfollowed := true, recurses := true, apart := false, narrowed := true }
def PageNumbersUptoSaid : Prop := pageNumbersUptoRow.holds Try.pinned (OpenSpec.upto pageNumbersSpec)

end Rows
end Go.Proofs.Ythdoighlfoinaaa
