/-
  NARROWER THAN 'FOR EVERY INPUT', by the rows' own cells (each row's printed sentence says how): TopBounded: laid · TopCounts: laid · TopAgrees: laid · TopSafe: laid · TopTwins: laid · TopPlain: laid.
  DERIVED. THE GIVEN ROWS OF THIS SEAT. 6 by the template 'for every input the law returns true; each argument reads behind the call as it read before'; 0 by the template 'total and deterministic' (their statements: YtamfjgioajmnpaaGreatDoorTotals.lean).
  GIVEN WITH THE SEED: the statements are not yours to turn. If you find one false, say at which input.
  Laid BY PROGRAM, IN A SANDBOX (cutbox-rows.mjs): the forced cells as the released guide's own fill.sh prints them over the translation 737bd48e24be1078… (all of the seat's roots in one cut). By AI agents, Wed Nov 11 2026. No macro, syntax, notation, axiom, sorry.
-/
import Derived.Test.YtamfjgioajmnpaaGreatDoorChecked
import GoSem.PinnedTables
import GoSem.Claim
import GoSem.ClaimJoined
import GoSem.ClaimMapViews
import Derived.JoinedTies
import Derived.KernelRfl
namespace Go.Proofs.YtamfjgioajmnpaaGreatDoor
/- THE CELL 'sum', in the pinned program and in every row, IS THE sha256 OF THE DUMP (.gsa) THAT YtamfjgioajmnpaaGreatDoorProg.lean LOADS. Nothing in Lean hashes anything: it is a label: what it is worth is what the hold of that sum in a sandbox is worth. -/
noncomputable def Tryz.pinned : Pinned := { name := "ytamfjgioajmnpaagreatdoor", sum := "737bd48e24be1078374ec0abaa7cda5de59e924ac96ea357b6d68d0eaf9d730e", checked := Tryz.checked }
namespace Rows
def none {H : Type} : Left H := { results := [], args := [] }

/- WHAT THE LISTED PACKAGE-LEVEL VARIABLES READ AS WHEN THE CALL BEGINS. Each datum BY PROGRAM (the guide's laid-datum.mjs) off the statement by which the dump's own 'gosem.cut.vars' lays the variable. In a bare row this is a premise. The card (YtamfjgioajmnpaaGreatDoorCards.lean) ties it to the program's text. -/
def laid_unicode_utf8_acceptRanges {H : Type} : DataW H := .agg [.agg [.lit (.int .u8 128), .lit (.int .u8 191)], .agg [.lit (.int .u8 160), .lit (.int .u8 191)], .agg [.lit (.int .u8 128), .lit (.int .u8 159)], .agg [.lit (.int .u8 144), .lit (.int .u8 191)], .agg [.lit (.int .u8 128), .lit (.int .u8 143)], .agg [.lit (.int .u8 0), .lit (.int .u8 0)], .agg [.lit (.int .u8 0), .lit (.int .u8 0)], .agg [.lit (.int .u8 0), .lit (.int .u8 0)], .agg [.lit (.int .u8 0), .lit (.int .u8 0)], .agg [.lit (.int .u8 0), .lit (.int .u8 0)], .agg [.lit (.int .u8 0), .lit (.int .u8 0)], .agg [.lit (.int .u8 0), .lit (.int .u8 0)], .agg [.lit (.int .u8 0), .lit (.int .u8 0)], .agg [.lit (.int .u8 0), .lit (.int .u8 0)], .agg [.lit (.int .u8 0), .lit (.int .u8 0)], .agg [.lit (.int .u8 0), .lit (.int .u8 0)]]
def laid_vitrine_header_names {H : Type} : DataW H := .agg [.lit (.string [51, 50, 55, 48, 45, 68, 65, 84, 65]), .lit (.string [83, 67, 83, 45, 68, 65, 84, 65]), .lit (.string [82, 69, 83, 80, 79, 78, 83, 69]), .lit (.string [66, 73, 78, 68, 45, 73, 77, 65, 71, 69]), .lit (.string [85, 78, 66, 73, 78, 68]), .lit (.string [78, 86, 84, 45, 68, 65, 84, 65]), .lit (.string [82, 69, 81, 85, 69, 83, 84]), .lit (.string [83, 83, 67, 80, 45, 76, 85, 45, 68, 65, 84, 65]), .lit (.string [80, 82, 73, 78, 84, 45, 69, 79, 74])]
def laid_vitrine_write_names {H : Type} : DataW H := .agg [.agg [.lit (.string [78, 111, 116, 104, 105, 110, 103]), .lit (.int .u8 3), .lit (.int .u8 3)], .agg [.lit (.string [87, 114, 105, 116, 101]), .lit (.int .u8 1), .lit (.int .u8 241)], .agg [.lit (.string [69, 114, 97, 115, 101, 87, 114, 105, 116, 101]), .lit (.int .u8 5), .lit (.int .u8 245)], .agg [.lit (.string [69, 114, 97, 115, 101, 65, 108, 116, 101, 114, 110, 97, 116, 101]), .lit (.int .u8 13), .lit (.int .u8 126)], .agg [.lit (.string [69, 114, 97, 115, 101, 85, 110, 112, 114, 111, 116, 101, 99, 116, 101, 100]), .lit (.int .u8 15), .lit (.int .u8 111)], .agg [.lit (.string [82, 101, 97, 100, 66, 117, 102, 102, 101, 114]), .lit (.int .u8 2), .lit (.int .u8 242)], .agg [.lit (.string [82, 101, 97, 100, 77, 111, 100, 105, 102, 105, 101, 100]), .lit (.int .u8 6), .lit (.int .u8 246)], .agg [.lit (.string [82, 101, 97, 100, 65, 108, 108]), .lit (.int .u8 14), .lit (.int .u8 110)], .agg [.lit (.string [83, 116, 114, 117, 99, 116, 117, 114, 101, 100]), .lit (.int .u8 17), .lit (.int .u8 243)]]
/-- One of Go's own tables, pinned by name: the form's constant. -/
def laid_unicode_utf8_first : DataW Unit := Go.Pinned.utf8First

/-- 'vitrinetop.TopBounded': WHATEVER THE INPUT: true; the input reads as it did. -/
def topBoundedSpec : ChangeSpec := { name := "topBounded", fn := fun _ => fun
  | [d1, d2, d3] => { results := [.lit (.bool true)], args := [d1, d2, d3] }
  | _ => none }
def topBoundedRow : OpenClaim := { program := "ytamfjgioajmnpaagreatdoor", sum := "737bd48e24be1078374ec0abaa7cda5de59e924ac96ea357b6d68d0eaf9d730e", func := "vitrine/vitrinetop.TopBounded", spec := "topBounded", inPlace := ["internal/bytealg.Count", "internal/bytealg.IndexByte", "internal/bytealg.Index", "sync/atomic.LoadUint32", "(*internal/sync.Mutex).Lock", "internal/race.Disable", "sync/atomic.CompareAndSwapInt32", "internal/race.Enable", "internal/race.Acquire", "(*internal/sync.Mutex).lockSlow", "internal/sync.runtime_canSpin", "internal/sync.runtime_doSpin", "internal/sync.throw", "internal/sync.runtime_nanotime", "internal/sync.runtime_SemacquireMutex", "sync/atomic.AddInt32", "(*internal/sync.Mutex).Unlock", "internal/race.ReleaseMerge", "(*internal/sync.Mutex).unlockSlow", "internal/sync.fatal", "internal/sync.runtime_Semrelease", "sync/atomic.StoreUint32", "sync/atomic.AddUint64", "sync/atomic.LoadUint64"], unfollowed := true, recurses := true, named := ["internal/bytealg.MaxLen", "unicode/utf8.first", "unicode/utf8.acceptRanges", "vitrine/header.names", "vitrine/write.names"], apart := false, laid := [("unicode/utf8.acceptRanges", laid_unicode_utf8_acceptRanges), ("vitrine/header.names", laid_vitrine_header_names), ("vitrine/write.names", laid_vitrine_write_names), ("unicode/utf8.first", laid_unicode_utf8_first)] }
def TopBoundedSaid : Prop := topBoundedRow.holds Tryz.pinned (OpenSpec.ofChange topBoundedSpec)

/-- ITS FALSE NEIGHBOUR: 'it returns false'. Refute it at one input. -/
def topBoundedWrong : ChangeSpec := { name := "topBounded", fn := fun _ => fun
  | [d1, d2, d3] => { results := [.lit (.bool false)], args := [d1, d2, d3] }
  | _ => none }
def TopBoundedWrongFalsely : Prop := topBoundedRow.holds Tryz.pinned (OpenSpec.ofChange topBoundedWrong)

/-- 'vitrinetop.TopCounts': WHATEVER THE INPUT: true; the input reads as it did. -/
def topCountsSpec : ChangeSpec := { name := "topCounts", fn := fun _ => fun
  | [d1, d2] => { results := [.lit (.bool true)], args := [d1, d2] }
  | _ => none }
def topCountsRow : OpenClaim := { program := "ytamfjgioajmnpaagreatdoor", sum := "737bd48e24be1078374ec0abaa7cda5de59e924ac96ea357b6d68d0eaf9d730e", func := "vitrine/vitrinetop.TopCounts", spec := "topCounts", inPlace := ["internal/bytealg.Count", "internal/bytealg.IndexByte", "internal/bytealg.Index", "sync/atomic.LoadUint32", "(*internal/sync.Mutex).Lock", "internal/race.Disable", "sync/atomic.CompareAndSwapInt32", "internal/race.Enable", "internal/race.Acquire", "(*internal/sync.Mutex).lockSlow", "internal/sync.runtime_canSpin", "internal/sync.runtime_doSpin", "internal/sync.throw", "internal/sync.runtime_nanotime", "internal/sync.runtime_SemacquireMutex", "sync/atomic.AddInt32", "(*internal/sync.Mutex).Unlock", "internal/race.ReleaseMerge", "(*internal/sync.Mutex).unlockSlow", "internal/sync.fatal", "internal/sync.runtime_Semrelease", "sync/atomic.StoreUint32", "sync/atomic.AddUint64", "sync/atomic.LoadUint64"], unfollowed := true, recurses := true, named := ["internal/bytealg.MaxLen", "unicode/utf8.first", "unicode/utf8.acceptRanges", "vitrine/header.names", "vitrine/write.names"], apart := false, laid := [("unicode/utf8.acceptRanges", laid_unicode_utf8_acceptRanges), ("vitrine/header.names", laid_vitrine_header_names), ("vitrine/write.names", laid_vitrine_write_names), ("unicode/utf8.first", laid_unicode_utf8_first)] }
def TopCountsSaid : Prop := topCountsRow.holds Tryz.pinned (OpenSpec.ofChange topCountsSpec)

/-- ITS FALSE NEIGHBOUR: 'it returns false'. Refute it at one input. -/
def topCountsWrong : ChangeSpec := { name := "topCounts", fn := fun _ => fun
  | [d1, d2] => { results := [.lit (.bool false)], args := [d1, d2] }
  | _ => none }
def TopCountsWrongFalsely : Prop := topCountsRow.holds Tryz.pinned (OpenSpec.ofChange topCountsWrong)

/-- 'vitrinetop.TopAgrees': WHATEVER THE INPUT: true; the input reads as it did. -/
def topAgreesSpec : ChangeSpec := { name := "topAgrees", fn := fun _ => fun
  | [d1, d2, d3, d4] => { results := [.lit (.bool true)], args := [d1, d2, d3, d4] }
  | _ => none }
def topAgreesRow : OpenClaim := { program := "ytamfjgioajmnpaagreatdoor", sum := "737bd48e24be1078374ec0abaa7cda5de59e924ac96ea357b6d68d0eaf9d730e", func := "vitrine/vitrinetop.TopAgrees", spec := "topAgrees", inPlace := ["internal/bytealg.Count", "internal/bytealg.IndexByte", "internal/bytealg.Index", "sync/atomic.LoadUint32", "(*internal/sync.Mutex).Lock", "internal/race.Disable", "sync/atomic.CompareAndSwapInt32", "internal/race.Enable", "internal/race.Acquire", "(*internal/sync.Mutex).lockSlow", "internal/sync.runtime_canSpin", "internal/sync.runtime_doSpin", "internal/sync.throw", "internal/sync.runtime_nanotime", "internal/sync.runtime_SemacquireMutex", "sync/atomic.AddInt32", "(*internal/sync.Mutex).Unlock", "internal/race.ReleaseMerge", "(*internal/sync.Mutex).unlockSlow", "internal/sync.fatal", "internal/sync.runtime_Semrelease", "sync/atomic.StoreUint32", "sync/atomic.AddUint64"], unfollowed := true, recurses := true, named := ["internal/bytealg.MaxLen", "unicode/utf8.first", "unicode/utf8.acceptRanges", "vitrine/header.names", "vitrine/write.names"], apart := false, laid := [("unicode/utf8.acceptRanges", laid_unicode_utf8_acceptRanges), ("vitrine/header.names", laid_vitrine_header_names), ("vitrine/write.names", laid_vitrine_write_names), ("unicode/utf8.first", laid_unicode_utf8_first)] }
def TopAgreesSaid : Prop := topAgreesRow.holds Tryz.pinned (OpenSpec.ofChange topAgreesSpec)

/-- ITS FALSE NEIGHBOUR: 'it returns false'. Refute it at one input. -/
def topAgreesWrong : ChangeSpec := { name := "topAgrees", fn := fun _ => fun
  | [d1, d2, d3, d4] => { results := [.lit (.bool false)], args := [d1, d2, d3, d4] }
  | _ => none }
def TopAgreesWrongFalsely : Prop := topAgreesRow.holds Tryz.pinned (OpenSpec.ofChange topAgreesWrong)

/-- 'vitrinetop.TopSafe': WHATEVER THE INPUT: true; the input reads as it did. -/
def topSafeSpec : ChangeSpec := { name := "topSafe", fn := fun _ => fun
  | [d1, d2, d3] => { results := [.lit (.bool true)], args := [d1, d2, d3] }
  | _ => none }
def topSafeRow : OpenClaim := { program := "ytamfjgioajmnpaagreatdoor", sum := "737bd48e24be1078374ec0abaa7cda5de59e924ac96ea357b6d68d0eaf9d730e", func := "vitrine/vitrinetop.TopSafe", spec := "topSafe", inPlace := ["internal/bytealg.Count", "internal/bytealg.IndexByte", "internal/bytealg.Index", "sync/atomic.LoadUint32", "(*internal/sync.Mutex).Lock", "internal/race.Disable", "sync/atomic.CompareAndSwapInt32", "internal/race.Enable", "internal/race.Acquire", "(*internal/sync.Mutex).lockSlow", "internal/sync.runtime_canSpin", "internal/sync.runtime_doSpin", "internal/sync.throw", "internal/sync.runtime_nanotime", "internal/sync.runtime_SemacquireMutex", "sync/atomic.AddInt32", "(*internal/sync.Mutex).Unlock", "internal/race.ReleaseMerge", "(*internal/sync.Mutex).unlockSlow", "internal/sync.fatal", "internal/sync.runtime_Semrelease", "sync/atomic.StoreUint32", "sync/atomic.AddUint64"], unfollowed := true, recurses := true, named := ["internal/bytealg.MaxLen", "unicode/utf8.first", "unicode/utf8.acceptRanges", "vitrine/header.names", "vitrine/write.names"], apart := false, laid := [("unicode/utf8.acceptRanges", laid_unicode_utf8_acceptRanges), ("vitrine/header.names", laid_vitrine_header_names), ("vitrine/write.names", laid_vitrine_write_names), ("unicode/utf8.first", laid_unicode_utf8_first)] }
def TopSafeSaid : Prop := topSafeRow.holds Tryz.pinned (OpenSpec.ofChange topSafeSpec)

/-- ITS FALSE NEIGHBOUR: 'it returns false'. Refute it at one input. -/
def topSafeWrong : ChangeSpec := { name := "topSafe", fn := fun _ => fun
  | [d1, d2, d3] => { results := [.lit (.bool false)], args := [d1, d2, d3] }
  | _ => none }
def TopSafeWrongFalsely : Prop := topSafeRow.holds Tryz.pinned (OpenSpec.ofChange topSafeWrong)

/-- 'vitrinetop.TopTwins': WHATEVER THE INPUT: true; the input reads as it did. -/
def topTwinsSpec : ChangeSpec := { name := "topTwins", fn := fun _ => fun
  | [d1, d2, d3] => { results := [.lit (.bool true)], args := [d1, d2, d3] }
  | _ => none }
def topTwinsRow : OpenClaim := { program := "ytamfjgioajmnpaagreatdoor", sum := "737bd48e24be1078374ec0abaa7cda5de59e924ac96ea357b6d68d0eaf9d730e", func := "vitrine/vitrinetop.TopTwins", spec := "topTwins", inPlace := ["internal/bytealg.Count", "internal/bytealg.IndexByte", "internal/bytealg.Index", "sync/atomic.LoadUint32", "(*internal/sync.Mutex).Lock", "internal/race.Disable", "sync/atomic.CompareAndSwapInt32", "internal/race.Enable", "internal/race.Acquire", "(*internal/sync.Mutex).lockSlow", "internal/sync.runtime_canSpin", "internal/sync.runtime_doSpin", "internal/sync.throw", "internal/sync.runtime_nanotime", "internal/sync.runtime_SemacquireMutex", "sync/atomic.AddInt32", "(*internal/sync.Mutex).Unlock", "internal/race.ReleaseMerge", "(*internal/sync.Mutex).unlockSlow", "internal/sync.fatal", "internal/sync.runtime_Semrelease", "sync/atomic.StoreUint32", "sync/atomic.AddUint64"], unfollowed := true, recurses := true, named := ["internal/bytealg.MaxLen", "unicode/utf8.first", "unicode/utf8.acceptRanges", "vitrine/header.names", "vitrine/write.names"], apart := false, laid := [("unicode/utf8.acceptRanges", laid_unicode_utf8_acceptRanges), ("vitrine/header.names", laid_vitrine_header_names), ("vitrine/write.names", laid_vitrine_write_names), ("unicode/utf8.first", laid_unicode_utf8_first)] }
def TopTwinsSaid : Prop := topTwinsRow.holds Tryz.pinned (OpenSpec.ofChange topTwinsSpec)

/-- ITS FALSE NEIGHBOUR: 'it returns false'. Refute it at one input. -/
def topTwinsWrong : ChangeSpec := { name := "topTwins", fn := fun _ => fun
  | [d1, d2, d3] => { results := [.lit (.bool false)], args := [d1, d2, d3] }
  | _ => none }
def TopTwinsWrongFalsely : Prop := topTwinsRow.holds Tryz.pinned (OpenSpec.ofChange topTwinsWrong)

/-- 'vitrinetop.TopPlain': WHATEVER THE INPUT: true; the input reads as it did. -/
def topPlainSpec : ChangeSpec := { name := "topPlain", fn := fun _ => fun
  | [d1, d2, d3] => { results := [.lit (.bool true)], args := [d1, d2, d3] }
  | _ => none }
def topPlainRow : OpenClaim := { program := "ytamfjgioajmnpaagreatdoor", sum := "737bd48e24be1078374ec0abaa7cda5de59e924ac96ea357b6d68d0eaf9d730e", func := "vitrine/vitrinetop.TopPlain", spec := "topPlain", inPlace := ["internal/bytealg.Count", "internal/bytealg.IndexByte", "internal/bytealg.Index", "sync/atomic.LoadUint32", "(*internal/sync.Mutex).Lock", "internal/race.Disable", "sync/atomic.CompareAndSwapInt32", "internal/race.Enable", "internal/race.Acquire", "(*internal/sync.Mutex).lockSlow", "internal/sync.runtime_canSpin", "internal/sync.runtime_doSpin", "internal/sync.throw", "internal/sync.runtime_nanotime", "internal/sync.runtime_SemacquireMutex", "sync/atomic.AddInt32", "(*internal/sync.Mutex).Unlock", "internal/race.ReleaseMerge", "(*internal/sync.Mutex).unlockSlow", "internal/sync.fatal", "internal/sync.runtime_Semrelease", "sync/atomic.StoreUint32", "sync/atomic.AddUint64", "sync/atomic.LoadUint64"], unfollowed := true, recurses := true, named := ["internal/bytealg.MaxLen", "unicode/utf8.first", "unicode/utf8.acceptRanges", "vitrine/header.names", "vitrine/write.names"], apart := false, laid := [("unicode/utf8.acceptRanges", laid_unicode_utf8_acceptRanges), ("vitrine/header.names", laid_vitrine_header_names), ("vitrine/write.names", laid_vitrine_write_names), ("unicode/utf8.first", laid_unicode_utf8_first)] }
def TopPlainSaid : Prop := topPlainRow.holds Tryz.pinned (OpenSpec.ofChange topPlainSpec)

/-- ITS FALSE NEIGHBOUR: 'it returns false'. Refute it at one input. -/
def topPlainWrong : ChangeSpec := { name := "topPlain", fn := fun _ => fun
  | [d1, d2, d3] => { results := [.lit (.bool false)], args := [d1, d2, d3] }
  | _ => none }
def TopPlainWrongFalsely : Prop := topPlainRow.holds Tryz.pinned (OpenSpec.ofChange topPlainWrong)

/- THE SECOND FORM. 'bulk': how many values and letters a reading holds, each counted each time it is reached (what is shared counts as often as it is met; a slice's spare places count too). A statement '..UptoSaid' is the law's where the arguments, and the package variables that the reading takes, are together of bulk at most 1048576: NARROWER than '..Said'. Prove '..Said' where nothing that the law and all that it calls make is longer than what came in: it says more and counts as full. Else prove '..UptoSaid'. A law counts once. -/
mutual
def uptoBulk {H : Type} : DataW H → Nat
  | .lit (.string bytes) => bytes.length + 1
  | .lit _ => 1
  | .nil => 1
  | .ptr d => uptoBulk d + 1
  | .slice elems spare => uptoBulkAll elems + uptoBulkAll spare + 1
  | .agg parts => uptoBulkAll parts + 1
  | .iface _ d => uptoBulk d + 1
  | .map entries => uptoBulkEntries entries + 1
  | .held _ => 1
def uptoBulkAll {H : Type} : List (DataW H) → Nat
  | [] => 0
  | d :: r => uptoBulk d + uptoBulkAll r
def uptoBulkEntries {H : Type} : List (Lit × DataW H) → Nat
  | [] => 0
  | x :: r => uptoBulkEntry x + uptoBulkEntries r
def uptoBulkEntry {H : Type} : Lit × DataW H → Nat
  | (.string bytes, d) => bytes.length + uptoBulk d + 1
  | (_, d) => uptoBulk d + 1
 end
def uptoSmall : (H : Type) → List (DataW H) → Bool := fun _ ds => decide (uptoBulkAll ds ≤ 1048576)
def OpenSpec.upto (s : _root_.Go.ChangeSpec) : _root_.Go.OpenSpec := { _root_.Go.OpenSpec.ofChange s with cond := some uptoSmall }

/-- 'vitrinetop.TopBounded', WHERE WHAT IT READS IS OF BULK AT MOST 1048576: true; the input reads as it did. -/
def topBoundedUptoRow : OpenClaim := { program := "ytamfjgioajmnpaagreatdoor", sum := "737bd48e24be1078374ec0abaa7cda5de59e924ac96ea357b6d68d0eaf9d730e", func := "vitrine/vitrinetop.TopBounded", spec := "topBounded", inPlace := ["internal/bytealg.Count", "internal/bytealg.IndexByte", "internal/bytealg.Index", "sync/atomic.LoadUint32", "(*internal/sync.Mutex).Lock", "internal/race.Disable", "sync/atomic.CompareAndSwapInt32", "internal/race.Enable", "internal/race.Acquire", "(*internal/sync.Mutex).lockSlow", "internal/sync.runtime_canSpin", "internal/sync.runtime_doSpin", "internal/sync.throw", "internal/sync.runtime_nanotime", "internal/sync.runtime_SemacquireMutex", "sync/atomic.AddInt32", "(*internal/sync.Mutex).Unlock", "internal/race.ReleaseMerge", "(*internal/sync.Mutex).unlockSlow", "internal/sync.fatal", "internal/sync.runtime_Semrelease", "sync/atomic.StoreUint32", "sync/atomic.AddUint64", "sync/atomic.LoadUint64"], unfollowed := true, recurses := true, named := ["internal/bytealg.MaxLen", "unicode/utf8.first", "unicode/utf8.acceptRanges", "vitrine/header.names", "vitrine/write.names"], apart := false, laid := [("unicode/utf8.acceptRanges", laid_unicode_utf8_acceptRanges), ("vitrine/header.names", laid_vitrine_header_names), ("vitrine/write.names", laid_vitrine_write_names), ("unicode/utf8.first", laid_unicode_utf8_first)], narrowed := true }
def TopBoundedUptoSaid : Prop := topBoundedUptoRow.holds Tryz.pinned (OpenSpec.upto topBoundedSpec)

/-- 'vitrinetop.TopCounts', WHERE WHAT IT READS IS OF BULK AT MOST 1048576: true; the input reads as it did. -/
def topCountsUptoRow : OpenClaim := { program := "ytamfjgioajmnpaagreatdoor", sum := "737bd48e24be1078374ec0abaa7cda5de59e924ac96ea357b6d68d0eaf9d730e", func := "vitrine/vitrinetop.TopCounts", spec := "topCounts", inPlace := ["internal/bytealg.Count", "internal/bytealg.IndexByte", "internal/bytealg.Index", "sync/atomic.LoadUint32", "(*internal/sync.Mutex).Lock", "internal/race.Disable", "sync/atomic.CompareAndSwapInt32", "internal/race.Enable", "internal/race.Acquire", "(*internal/sync.Mutex).lockSlow", "internal/sync.runtime_canSpin", "internal/sync.runtime_doSpin", "internal/sync.throw", "internal/sync.runtime_nanotime", "internal/sync.runtime_SemacquireMutex", "sync/atomic.AddInt32", "(*internal/sync.Mutex).Unlock", "internal/race.ReleaseMerge", "(*internal/sync.Mutex).unlockSlow", "internal/sync.fatal", "internal/sync.runtime_Semrelease", "sync/atomic.StoreUint32", "sync/atomic.AddUint64", "sync/atomic.LoadUint64"], unfollowed := true, recurses := true, named := ["internal/bytealg.MaxLen", "unicode/utf8.first", "unicode/utf8.acceptRanges", "vitrine/header.names", "vitrine/write.names"], apart := false, laid := [("unicode/utf8.acceptRanges", laid_unicode_utf8_acceptRanges), ("vitrine/header.names", laid_vitrine_header_names), ("vitrine/write.names", laid_vitrine_write_names), ("unicode/utf8.first", laid_unicode_utf8_first)], narrowed := true }
def TopCountsUptoSaid : Prop := topCountsUptoRow.holds Tryz.pinned (OpenSpec.upto topCountsSpec)

/-- 'vitrinetop.TopAgrees', WHERE WHAT IT READS IS OF BULK AT MOST 1048576: true; the input reads as it did. -/
def topAgreesUptoRow : OpenClaim := { program := "ytamfjgioajmnpaagreatdoor", sum := "737bd48e24be1078374ec0abaa7cda5de59e924ac96ea357b6d68d0eaf9d730e", func := "vitrine/vitrinetop.TopAgrees", spec := "topAgrees", inPlace := ["internal/bytealg.Count", "internal/bytealg.IndexByte", "internal/bytealg.Index", "sync/atomic.LoadUint32", "(*internal/sync.Mutex).Lock", "internal/race.Disable", "sync/atomic.CompareAndSwapInt32", "internal/race.Enable", "internal/race.Acquire", "(*internal/sync.Mutex).lockSlow", "internal/sync.runtime_canSpin", "internal/sync.runtime_doSpin", "internal/sync.throw", "internal/sync.runtime_nanotime", "internal/sync.runtime_SemacquireMutex", "sync/atomic.AddInt32", "(*internal/sync.Mutex).Unlock", "internal/race.ReleaseMerge", "(*internal/sync.Mutex).unlockSlow", "internal/sync.fatal", "internal/sync.runtime_Semrelease", "sync/atomic.StoreUint32", "sync/atomic.AddUint64"], unfollowed := true, recurses := true, named := ["internal/bytealg.MaxLen", "unicode/utf8.first", "unicode/utf8.acceptRanges", "vitrine/header.names", "vitrine/write.names"], apart := false, laid := [("unicode/utf8.acceptRanges", laid_unicode_utf8_acceptRanges), ("vitrine/header.names", laid_vitrine_header_names), ("vitrine/write.names", laid_vitrine_write_names), ("unicode/utf8.first", laid_unicode_utf8_first)], narrowed := true }
def TopAgreesUptoSaid : Prop := topAgreesUptoRow.holds Tryz.pinned (OpenSpec.upto topAgreesSpec)

/-- 'vitrinetop.TopSafe', WHERE WHAT IT READS IS OF BULK AT MOST 1048576: true; the input reads as it did. -/
def topSafeUptoRow : OpenClaim := { program := "ytamfjgioajmnpaagreatdoor", sum := "737bd48e24be1078374ec0abaa7cda5de59e924ac96ea357b6d68d0eaf9d730e", func := "vitrine/vitrinetop.TopSafe", spec := "topSafe", inPlace := ["internal/bytealg.Count", "internal/bytealg.IndexByte", "internal/bytealg.Index", "sync/atomic.LoadUint32", "(*internal/sync.Mutex).Lock", "internal/race.Disable", "sync/atomic.CompareAndSwapInt32", "internal/race.Enable", "internal/race.Acquire", "(*internal/sync.Mutex).lockSlow", "internal/sync.runtime_canSpin", "internal/sync.runtime_doSpin", "internal/sync.throw", "internal/sync.runtime_nanotime", "internal/sync.runtime_SemacquireMutex", "sync/atomic.AddInt32", "(*internal/sync.Mutex).Unlock", "internal/race.ReleaseMerge", "(*internal/sync.Mutex).unlockSlow", "internal/sync.fatal", "internal/sync.runtime_Semrelease", "sync/atomic.StoreUint32", "sync/atomic.AddUint64"], unfollowed := true, recurses := true, named := ["internal/bytealg.MaxLen", "unicode/utf8.first", "unicode/utf8.acceptRanges", "vitrine/header.names", "vitrine/write.names"], apart := false, laid := [("unicode/utf8.acceptRanges", laid_unicode_utf8_acceptRanges), ("vitrine/header.names", laid_vitrine_header_names), ("vitrine/write.names", laid_vitrine_write_names), ("unicode/utf8.first", laid_unicode_utf8_first)], narrowed := true }
def TopSafeUptoSaid : Prop := topSafeUptoRow.holds Tryz.pinned (OpenSpec.upto topSafeSpec)

/-- 'vitrinetop.TopTwins', WHERE WHAT IT READS IS OF BULK AT MOST 1048576: true; the input reads as it did. -/
def topTwinsUptoRow : OpenClaim := { program := "ytamfjgioajmnpaagreatdoor", sum := "737bd48e24be1078374ec0abaa7cda5de59e924ac96ea357b6d68d0eaf9d730e", func := "vitrine/vitrinetop.TopTwins", spec := "topTwins", inPlace := ["internal/bytealg.Count", "internal/bytealg.IndexByte", "internal/bytealg.Index", "sync/atomic.LoadUint32", "(*internal/sync.Mutex).Lock", "internal/race.Disable", "sync/atomic.CompareAndSwapInt32", "internal/race.Enable", "internal/race.Acquire", "(*internal/sync.Mutex).lockSlow", "internal/sync.runtime_canSpin", "internal/sync.runtime_doSpin", "internal/sync.throw", "internal/sync.runtime_nanotime", "internal/sync.runtime_SemacquireMutex", "sync/atomic.AddInt32", "(*internal/sync.Mutex).Unlock", "internal/race.ReleaseMerge", "(*internal/sync.Mutex).unlockSlow", "internal/sync.fatal", "internal/sync.runtime_Semrelease", "sync/atomic.StoreUint32", "sync/atomic.AddUint64"], unfollowed := true, recurses := true, named := ["internal/bytealg.MaxLen", "unicode/utf8.first", "unicode/utf8.acceptRanges", "vitrine/header.names", "vitrine/write.names"], apart := false, laid := [("unicode/utf8.acceptRanges", laid_unicode_utf8_acceptRanges), ("vitrine/header.names", laid_vitrine_header_names), ("vitrine/write.names", laid_vitrine_write_names), ("unicode/utf8.first", laid_unicode_utf8_first)], narrowed := true }
def TopTwinsUptoSaid : Prop := topTwinsUptoRow.holds Tryz.pinned (OpenSpec.upto topTwinsSpec)

/-- 'vitrinetop.TopPlain', WHERE WHAT IT READS IS OF BULK AT MOST 1048576: true; the input reads as it did. -/
def topPlainUptoRow : OpenClaim := { program := "ytamfjgioajmnpaagreatdoor", sum := "737bd48e24be1078374ec0abaa7cda5de59e924ac96ea357b6d68d0eaf9d730e", func := "vitrine/vitrinetop.TopPlain", spec := "topPlain", inPlace := ["internal/bytealg.Count", "internal/bytealg.IndexByte", "internal/bytealg.Index", "sync/atomic.LoadUint32", "(*internal/sync.Mutex).Lock", "internal/race.Disable", "sync/atomic.CompareAndSwapInt32", "internal/race.Enable", "internal/race.Acquire", "(*internal/sync.Mutex).lockSlow", "internal/sync.runtime_canSpin", "internal/sync.runtime_doSpin", "internal/sync.throw", "internal/sync.runtime_nanotime", "internal/sync.runtime_SemacquireMutex", "sync/atomic.AddInt32", "(*internal/sync.Mutex).Unlock", "internal/race.ReleaseMerge", "(*internal/sync.Mutex).unlockSlow", "internal/sync.fatal", "internal/sync.runtime_Semrelease", "sync/atomic.StoreUint32", "sync/atomic.AddUint64", "sync/atomic.LoadUint64"], unfollowed := true, recurses := true, named := ["internal/bytealg.MaxLen", "unicode/utf8.first", "unicode/utf8.acceptRanges", "vitrine/header.names", "vitrine/write.names"], apart := false, laid := [("unicode/utf8.acceptRanges", laid_unicode_utf8_acceptRanges), ("vitrine/header.names", laid_vitrine_header_names), ("vitrine/write.names", laid_vitrine_write_names), ("unicode/utf8.first", laid_unicode_utf8_first)], narrowed := true }
def TopPlainUptoSaid : Prop := topPlainUptoRow.holds Tryz.pinned (OpenSpec.upto topPlainSpec)

end Rows
end Go.Proofs.YtamfjgioajmnpaaGreatDoor
