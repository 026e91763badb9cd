/-
  sfield's data: the field of an act, as bytes. Condition: write's table lies as the row lists it.
-/
import Derived.Test.YtfambgigdhkiaaaDoorAwake21
import Derived.Test.YtfambgigdhkiaaaDoorFBytes
import Derived.Deep.RegionWith
namespace Go.Proofs.YtfambgigdhkiaaaDoor
open Go.RowKit
set_option linter.unusedVariables false
set_option linter.unusedSimpArgs false

/-- the field of an act: its identifier, its data; false: there is no such kind -/
def dataOf (a : PAct) : Int × List Int × Bool :=
  if a.kind = 1 then (1, [255, 2], true) else if a.kind = 2 then (1, [255, 3, a.req] ++ a.codes, true) else if a.kind = 3 then (1, [0, byteOf a.cmd], true)
  else if a.kind = 4 then (3, [if a.alt then 128 else 0], true) else if a.kind = 5 then (9, [0, a.mode % 256], true)
  else if a.kind = 6 then (12, [0], true) else if a.kind = 7 then (13, [0], true) else if a.kind = 8 then (14, [0], true)
  else if a.kind = 9 then (64, [0] ++ a.rec_, true) else (0, [], false)
def DataRet (w : World) (r : Int × List Int × Bool) (e : Ending) (w' : World) : Prop :=
  ∃ A c, e = .returned (.tuple #[.int .u8 r.1, .slice A r.2.1.length c, .bool r.2.2]) ∧ Sl w.heap.size w' A r.2.1.length c r.2.1 ∧ Up w w'
theorem byteOf_bd (c : Int) : 0 ≤ byteOf c ∧ byteOf c ≤ 255 := by
  unfold byteOf
  split
  · exact cOth_bd _
  · omega
theorem lit1 (W : World) (x : Int) (base : Nat) (hb : base ≤ W.heap.size) (g : Nat) (hg : g = W.heap.size) : (W.alloc (.cells #[.int .u8 x] 5)).ownsRow base 5 1 (.slice (some ⟨g, 0, none⟩) 1 1) 1 (bs [x]) := by
  subst hg
  have := World.ownsRow_lit (base := base) (size := 1) (e := 5) W #[.int .u8 x] 1 hb (by simp [maxLen]) rfl
  simpa [bs] using this

set_option maxHeartbeats 1600000 in
theorem data1 {cm m rq k : Int} {al : Bool} {A1 A2 : Option Addr} {n1 n2 c1 c2 : Nat} {w : World} (hk : k = 1) :
    Calls Tryd.prog 39 #[.agg #[.int .i64 k, .int .i64 cm, .int .i64 m, .bool al, .int .u8 rq, .slice A1 n1 c1, .slice A2 n2 c2]] w (DataRet w (1, [255, 2], true)) := by
  subst hk
  go_enter Tryd.func39, Tryd.ntmps39
  go_wp2
  go_ret3
  exact ⟨some ⟨w.heap.size + 1, 0, none⟩, 2, rfl, (sl_lit (w.alloc (.cells #[.int .i64 1, .int .i64 cm, .int .i64 m, .bool al, .int .u8 rq, .slice A1 n1 c1, .slice A2 n2 c2] 50)) [255, 2] (by intro x hx; simp only [List.mem_cons, List.mem_nil_iff, or_false] at hx; (try rcases hx with rfl | rfl) <;> (try subst hx) <;> omega) (by simp) 2 (w.heap.size + 1) (by simp) _ rfl rfl).low (by simp), by (repeat (first | with_reducible exact Up.refl _ | with_reducible refine Up.alloc ?_ _ | with_reducible refine Up.drew ?_ | with_reducible refine Up.drewN ?_ _ | with_reducible refine Up.setCell ?_ (by (try simp) <;> omega) _ | with_reducible assumption | with_reducible refine Up.trans ?_ (by assumption)))⟩

set_option maxHeartbeats 1600000 in
theorem data4t {cm m rq k : Int} {al : Bool} {A1 A2 : Option Addr} {n1 n2 c1 c2 : Nat} {w : World} (hk : k = 4) (ha : al = true) :
    Calls Tryd.prog 39 #[.agg #[.int .i64 k, .int .i64 cm, .int .i64 m, .bool al, .int .u8 rq, .slice A1 n1 c1, .slice A2 n2 c2]] w (DataRet w (3, [128], true)) := by
  subst hk
  subst ha
  go_enter Tryd.func39, Tryd.ntmps39
  go_wp2
  go_ret3
  exact ⟨some ⟨w.heap.size + 1, 0, none⟩, 1, rfl, (sl_lit (w.alloc (.cells #[.int .i64 4, .int .i64 cm, .int .i64 m, .bool true, .int .u8 rq, .slice A1 n1 c1, .slice A2 n2 c2] 50)) [128] (by intro x hx; simp only [List.mem_cons, List.mem_nil_iff, or_false] at hx; (try rcases hx with rfl) <;> (try subst hx) <;> omega) (by simp) 1 (w.heap.size + 1) (by simp) _ rfl rfl).low (by simp), by (repeat (first | with_reducible exact Up.refl _ | with_reducible refine Up.alloc ?_ _ | with_reducible refine Up.drew ?_ | with_reducible refine Up.drewN ?_ _ | with_reducible refine Up.setCell ?_ (by (try simp) <;> omega) _ | with_reducible assumption | with_reducible refine Up.trans ?_ (by assumption)))⟩

set_option maxHeartbeats 1600000 in
theorem data4f {cm m rq k : Int} {al : Bool} {A1 A2 : Option Addr} {n1 n2 c1 c2 : Nat} {w : World} (hk : k = 4) (ha : al = false) :
    Calls Tryd.prog 39 #[.agg #[.int .i64 k, .int .i64 cm, .int .i64 m, .bool al, .int .u8 rq, .slice A1 n1 c1, .slice A2 n2 c2]] w (DataRet w (3, [0], true)) := by
  subst hk
  subst ha
  go_enter Tryd.func39, Tryd.ntmps39
  go_wp2
  go_ret3
  exact ⟨some ⟨w.heap.size + 1, 0, none⟩, 1, rfl, (sl_lit (w.alloc (.cells #[.int .i64 4, .int .i64 cm, .int .i64 m, .bool false, .int .u8 rq, .slice A1 n1 c1, .slice A2 n2 c2] 50)) [0] (by intro x hx; simp only [List.mem_cons, List.mem_nil_iff, or_false] at hx; (try rcases hx with rfl) <;> (try subst hx) <;> omega) (by simp) 1 (w.heap.size + 1) (by simp) _ rfl rfl).low (by simp), by (repeat (first | with_reducible exact Up.refl _ | with_reducible refine Up.alloc ?_ _ | with_reducible refine Up.drew ?_ | with_reducible refine Up.drewN ?_ _ | with_reducible refine Up.setCell ?_ (by (try simp) <;> omega) _ | with_reducible assumption | with_reducible refine Up.trans ?_ (by assumption)))⟩

set_option maxHeartbeats 1600000 in
theorem data6 {cm m rq k : Int} {al : Bool} {A1 A2 : Option Addr} {n1 n2 c1 c2 : Nat} {w : World} (hk : k = 6) :
    Calls Tryd.prog 39 #[.agg #[.int .i64 k, .int .i64 cm, .int .i64 m, .bool al, .int .u8 rq, .slice A1 n1 c1, .slice A2 n2 c2]] w (DataRet w (12, [0], true)) := by
  subst hk
  go_enter Tryd.func39, Tryd.ntmps39
  go_wp2
  go_ret3
  exact ⟨some ⟨w.heap.size + 1, 0, none⟩, 1, rfl, (sl_lit (w.alloc (.cells #[.int .i64 6, .int .i64 cm, .int .i64 m, .bool al, .int .u8 rq, .slice A1 n1 c1, .slice A2 n2 c2] 50)) [0] (by intro x hx; simp only [List.mem_cons, List.mem_nil_iff, or_false] at hx; (try rcases hx with rfl) <;> (try subst hx) <;> omega) (by simp) 1 (w.heap.size + 1) (by simp) _ rfl rfl).low (by simp), by (repeat (first | with_reducible exact Up.refl _ | with_reducible refine Up.alloc ?_ _ | with_reducible refine Up.drew ?_ | with_reducible refine Up.drewN ?_ _ | with_reducible refine Up.setCell ?_ (by (try simp) <;> omega) _ | with_reducible assumption | with_reducible refine Up.trans ?_ (by assumption)))⟩

set_option maxHeartbeats 1600000 in
theorem data7 {cm m rq k : Int} {al : Bool} {A1 A2 : Option Addr} {n1 n2 c1 c2 : Nat} {w : World} (hk : k = 7) :
    Calls Tryd.prog 39 #[.agg #[.int .i64 k, .int .i64 cm, .int .i64 m, .bool al, .int .u8 rq, .slice A1 n1 c1, .slice A2 n2 c2]] w (DataRet w (13, [0], true)) := by
  subst hk
  go_enter Tryd.func39, Tryd.ntmps39
  go_wp2
  go_ret3
  exact ⟨some ⟨w.heap.size + 1, 0, none⟩, 1, rfl, (sl_lit (w.alloc (.cells #[.int .i64 7, .int .i64 cm, .int .i64 m, .bool al, .int .u8 rq, .slice A1 n1 c1, .slice A2 n2 c2] 50)) [0] (by intro x hx; simp only [List.mem_cons, List.mem_nil_iff, or_false] at hx; (try rcases hx with rfl) <;> (try subst hx) <;> omega) (by simp) 1 (w.heap.size + 1) (by simp) _ rfl rfl).low (by simp), by (repeat (first | with_reducible exact Up.refl _ | with_reducible refine Up.alloc ?_ _ | with_reducible refine Up.drew ?_ | with_reducible refine Up.drewN ?_ _ | with_reducible refine Up.setCell ?_ (by (try simp) <;> omega) _ | with_reducible assumption | with_reducible refine Up.trans ?_ (by assumption)))⟩

set_option maxHeartbeats 1600000 in
theorem data8 {cm m rq k : Int} {al : Bool} {A1 A2 : Option Addr} {n1 n2 c1 c2 : Nat} {w : World} (hk : k = 8) :
    Calls Tryd.prog 39 #[.agg #[.int .i64 k, .int .i64 cm, .int .i64 m, .bool al, .int .u8 rq, .slice A1 n1 c1, .slice A2 n2 c2]] w (DataRet w (14, [0], true)) := by
  subst hk
  go_enter Tryd.func39, Tryd.ntmps39
  go_wp2
  go_ret3
  exact ⟨some ⟨w.heap.size + 1, 0, none⟩, 1, rfl, (sl_lit (w.alloc (.cells #[.int .i64 8, .int .i64 cm, .int .i64 m, .bool al, .int .u8 rq, .slice A1 n1 c1, .slice A2 n2 c2] 50)) [0] (by intro x hx; simp only [List.mem_cons, List.mem_nil_iff, or_false] at hx; (try rcases hx with rfl) <;> (try subst hx) <;> omega) (by simp) 1 (w.heap.size + 1) (by simp) _ rfl rfl).low (by simp), by (repeat (first | with_reducible exact Up.refl _ | with_reducible refine Up.alloc ?_ _ | with_reducible refine Up.drew ?_ | with_reducible refine Up.drewN ?_ _ | with_reducible refine Up.setCell ?_ (by (try simp) <;> omega) _ | with_reducible assumption | with_reducible refine Up.trans ?_ (by assumption)))⟩

set_option maxHeartbeats 1600000 in
theorem data0 {cm m rq k : Int} {al : Bool} {A1 A2 : Option Addr} {n1 n2 c1 c2 : Nat} {w : World} (e1 : (k == 1) = false) (e2 : (k == 2) = false) (e3 : (k == 3) = false) (e4 : (k == 4) = false) (e5 : (k == 5) = false) (e6 : (k == 6) = false) (e7 : (k == 7) = false) (e8 : (k == 8) = false) (e9 : (k == 9) = false) :
    Calls Tryd.prog 39 #[.agg #[.int .i64 k, .int .i64 cm, .int .i64 m, .bool al, .int .u8 rq, .slice A1 n1 c1, .slice A2 n2 c2]] w (DataRet w (0, [], false)) := by
  go_enter Tryd.func39, Tryd.ntmps39
  go_wp2
  go_ret3
  exact ⟨none, 0, rfl, Sl.none_, by (repeat (first | with_reducible exact Up.refl _ | with_reducible refine Up.alloc ?_ _ | with_reducible refine Up.drew ?_ | with_reducible refine Up.drewN ?_ _ | with_reducible refine Up.setCell ?_ (by (try simp) <;> omega) _ | with_reducible assumption | with_reducible refine Up.trans ?_ (by assumption)))⟩

set_option maxHeartbeats 1600000 in
theorem data3 {cm m rq k : Int} {al : Bool} {A1 A2 : Option Addr} {n1 n2 c1 c2 : Nat} {w : World} (hk : k = 3) (HT : Hid (TabW w)) :
    Calls Tryd.prog 39 #[.agg #[.int .i64 k, .int .i64 cm, .int .i64 m, .bool al, .int .u8 rq, .slice A1 n1 c1, .slice A2 n2 c2]] w (DataRet w (1, [0, byteOf cm], true)) := by
  subst hk
  have hbd := byteOf_bd cm
  obtain ⟨y, hy⟩ : ∃ y, byteOf cm = y := ⟨_, rfl⟩
  have hby := Lib.hid (fun w h => byte_is cm w h)
  rw [hy] at hbd hby ⊢
  clear hy
  go_enter Tryd.func39, Tryd.ntmps39
  go_wp2_with fail
  refine (hby.out _ (HT.out.up (by (repeat (first | with_reducible exact Up.refl _ | with_reducible refine Up.alloc ?_ _ | with_reducible refine Up.drew ?_ | with_reducible refine Up.drewN ?_ _ | with_reducible refine Up.setCell ?_ (by (try simp) <;> omega) _ | with_reducible assumption | with_reducible refine Up.trans ?_ (by assumption)))))).mono ?_
  rintro e w1 ⟨rfl, hb_w1⟩
  have hu_w1 : Up w w1 := by (repeat (first | with_reducible exact Up.refl _ | with_reducible refine Up.alloc ?_ _ | with_reducible refine Up.drew ?_ | with_reducible refine Up.drewN ?_ _ | with_reducible refine Up.setCell ?_ (by (try simp) <;> omega) _ | with_reducible assumption | with_reducible refine Up.trans ?_ (by assumption)))
  have hz_w1 := Up.size hb_w1
  try simp at hz_w1
  obtain ⟨bd_w1_0, be_w1_0⟩ := hb_w1.at_ (w.heap.size) (by (try simp) <;> omega)
  have zb_w1_0 : w.heap.size < w1.heap.size := by omega
  go_wp2_with fail
  go_ret3
  exact ⟨some ⟨w1.heap.size, 0, none⟩, 2, rfl, (sl_lit w1 [0, y] (by intro x hx; simp only [List.mem_cons, List.mem_nil_iff, or_false] at hx; rcases hx with rfl | rfl <;> omega) (by simp) 2 w1.heap.size rfl _ rfl rfl).low (by omega), by (repeat (first | with_reducible exact Up.refl _ | with_reducible refine Up.alloc ?_ _ | with_reducible refine Up.drew ?_ | with_reducible refine Up.drewN ?_ _ | with_reducible refine Up.setCell ?_ (by (try simp) <;> omega) _ | with_reducible assumption | with_reducible refine Up.trans ?_ (by assumption)))⟩

set_option maxHeartbeats 1600000 in
theorem data5 {cm m rq k : Int} {al : Bool} {A1 A2 : Option Addr} {n1 n2 c1 c2 : Nat} {w : World} (hk : k = 5) :
    Calls Tryd.prog 39 #[.agg #[.int .i64 k, .int .i64 cm, .int .i64 m, .bool al, .int .u8 rq, .slice A1 n1 c1, .slice A2 n2 c2]] w (DataRet w (9, [0, m % 256], true)) := by
  subst hk
  have hbd : 0 ≤ m % 256 ∧ m % 256 ≤ 255 := by omega
  go_enter Tryd.func39, Tryd.ntmps39
  go_wp2
  go_region
  all_goals
    go_wp2
    go_ret3
    exact ⟨some ⟨w.heap.size + 1, 0, none⟩, 2, rfl, (sl_lit ((w.alloc (.cells #[.int .i64 5, .int .i64 cm, .int .i64 m, .bool al, .int .u8 rq, .slice A1 n1 c1, .slice A2 n2 c2] 50)).drew) [0, m % 256] (by intro x hx; simp only [List.mem_cons, List.mem_nil_iff, or_false] at hx; rcases hx with rfl | rfl <;> omega) (by simp) 2 (w.heap.size + 1) (by simp) _ rfl rfl).low (by simp), by (repeat (first | with_reducible exact Up.refl _ | with_reducible refine Up.alloc ?_ _ | with_reducible refine Up.drew ?_ | with_reducible refine Up.drewN ?_ _ | with_reducible refine Up.setCell ?_ (by (try simp) <;> omega) _ | with_reducible assumption | with_reducible refine Up.trans ?_ (by assumption)))⟩

set_option maxHeartbeats 1600000 in
theorem data2 {cm m rq k : Int} {al : Bool} {A1 A2 : Option Addr} {n1 n2 c1 c2 : Nat} {w : World} {B : Nat} {l : List Int} (hk : k = 2) (hq : 0 ≤ rq ∧ rq ≤ 255) (h : Sl B w A1 n1 c1 l) (hn : n1 ≤ 60000) :
    Calls Tryd.prog 39 #[.agg #[.int .i64 k, .int .i64 cm, .int .i64 m, .bool al, .int .u8 rq, .slice A1 n1 c1, .slice A2 n2 c2]] w (DataRet w (1, [255, 3, rq] ++ l, true)) := by
  subst hk
  obtain ⟨i0, hi, hz0, hz1, hz2⟩ := info_parts info_u8
  have HS := Lib.hid h
  have HB := Lib.hid h.bytes
  have HL := Lib.hid h.len
  clear h
  have hn2 : 3 + n1 ≤ maxLen := by simp [maxLen]; omega
  go_enter Tryd.func39, Tryd.ntmps39
  go_wp2_with (at_builtin; refine wpList_app _ rfl (.tmp 14) (.tmp 16) 23 rfl w.heap.size 5 i0 _ 1 1 Tryd.underlying23 hi hz0 hz1 hz2 rfl (by decide) _ 3 3 (bs [255, 3, rq]) rfl (lit3 (w.alloc (.cells #[.int .i64 2, .int .i64 cm, .int .i64 m, .bool al, .int .u8 rq, .slice A1 n1 c1, .slice A2 n2 c2] 50)) _ _ _ w.heap.size (by simp) (w.heap.size + 1) (by simp)) _ A1 n1 c1 (bs l) rfl ((HS.out.up ((Up.refl w).alloc _)).up ((Up.refl _).alloc _)).rd (one_u8 l) hn2 (by omega) (by simp; omega) ?_; intro A3 c3 w1 hown1 hg1 hle1 hmx1 hbl1; have HO := Lib.hid hown1; clear hown1)
  go_ret3
  have ho := HO.out
  rw [← bs_app] at ho
  have hlen : ([255, 3, rq] ++ l).length = 3 + n1 := by simp [HL.out]; omega
  refine ⟨A3, c3, ?_, ?_, by (refine Up.past ?_ hbl1; (repeat (first | with_reducible exact Up.refl _ | with_reducible refine Up.alloc ?_ _ | with_reducible refine Up.drew ?_ | with_reducible refine Up.drewN ?_ _ | with_reducible refine Up.setCell ?_ (by (try simp) <;> omega) _ | with_reducible assumption | with_reducible refine Up.trans ?_ (by assumption))))⟩
  · show _ = Ending.returned (.tuple #[.int .u8 1, .slice A3 ([255, 3, rq] ++ l).length c3, .bool true])
    rw [hlen]; rfl
  show Sl w.heap.size w1 A3 ([255, 3, rq] ++ l).length c3 ([255, 3, rq] ++ l)
  rw [hlen]
  refine Sl.of_own ho hle1 hmx1 (by omega) (BL.app ?_ HB.out)
  intro x hx; simp only [List.mem_cons, List.mem_nil_iff, or_false] at hx
  rcases hx with rfl | rfl | rfl <;> omega

set_option maxHeartbeats 1600000 in
theorem data9 {cm m rq k : Int} {al : Bool} {A1 A2 : Option Addr} {n1 n2 c1 c2 : Nat} {w : World} {B : Nat} {l : List Int} (hk : k = 9) (h : Sl B w A2 n2 c2 l) (hn : n2 ≤ 60000) :
    Calls Tryd.prog 39 #[.agg #[.int .i64 k, .int .i64 cm, .int .i64 m, .bool al, .int .u8 rq, .slice A1 n1 c1, .slice A2 n2 c2]] w (DataRet w (64, [0] ++ l, true)) := by
  subst hk
  obtain ⟨i0, hi, hz0, hz1, hz2⟩ := info_parts info_u8
  have HS := Lib.hid h
  have HB := Lib.hid h.bytes
  have HL := Lib.hid h.len
  clear h
  have hn2 : 1 + n2 ≤ maxLen := by simp [maxLen]; omega
  go_enter Tryd.func39, Tryd.ntmps39
  go_wp2_with (at_builtin; refine wpList_app _ rfl (.tmp 47) (.tmp 49) 23 rfl w.heap.size 5 i0 _ 1 1 Tryd.underlying23 hi hz0 hz1 hz2 rfl (by decide) _ 1 1 (bs [0]) rfl (lit1 (w.alloc (.cells #[.int .i64 9, .int .i64 cm, .int .i64 m, .bool al, .int .u8 rq, .slice A1 n1 c1, .slice A2 n2 c2] 50)) _ w.heap.size (by simp) (w.heap.size + 1) (by simp)) _ A2 n2 c2 (bs l) rfl ((HS.out.up ((Up.refl w).alloc _)).up ((Up.refl _).alloc _)).rd (one_u8 l) hn2 (by omega) (by simp; omega) ?_; intro A3 c3 w1 hown1 hg1 hle1 hmx1 hbl1; have HO := Lib.hid hown1; clear hown1)
  go_ret3
  have ho := HO.out
  rw [← bs_app] at ho
  have hlen : ([0] ++ l).length = 1 + n2 := by simp [HL.out]; omega
  refine ⟨A3, c3, ?_, ?_, by (refine Up.past ?_ hbl1; (repeat (first | with_reducible exact Up.refl _ | with_reducible refine Up.alloc ?_ _ | with_reducible refine Up.drew ?_ | with_reducible refine Up.drewN ?_ _ | with_reducible refine Up.setCell ?_ (by (try simp) <;> omega) _ | with_reducible assumption | with_reducible refine Up.trans ?_ (by assumption))))⟩
  · show _ = Ending.returned (.tuple #[.int .u8 64, .slice A3 ([0] ++ l).length c3, .bool true])
    rw [hlen]; rfl
  show Sl w.heap.size w1 A3 ([0] ++ l).length c3 ([0] ++ l)
  rw [hlen]
  refine Sl.of_own ho hle1 hmx1 (by omega) (BL.app ?_ HB.out)
  intro x hx; simp only [List.mem_cons, List.mem_nil_iff, or_false] at hx
  rcases hx with rfl <;> omega

theorem data_is {a : PAct} {A1 A2 : Option Addr} {B1 B2 c1 c2 : Nat} {w : World} (ht : TabW w) (hq : 0 ≤ a.req ∧ a.req ≤ 255) (h1 : Sl B1 w A1 a.codes.length c1 a.codes) (h2 : Sl B2 w A2 a.rec_.length c2 a.rec_) (n1 : a.codes.length ≤ 60000) (n2 : a.rec_.length ≤ 60000) :
    Calls Tryd.prog 39 #[actV a A1 c1 A2 c2] w (DataRet w (dataOf a)) := by
  obtain ⟨k, cm, m, al, rq, cs, rc⟩ := a
  unfold actV
  simp only at *
  unfold dataOf
  simp only
  by_cases k1 : k = 1
  · rw [if_pos k1]; exact data1 k1
  rw [if_neg k1]
  by_cases k2 : k = 2
  · rw [if_pos k2]; exact data2 k2 hq h1 n1
  rw [if_neg k2]
  by_cases k3 : k = 3
  · rw [if_pos k3]; exact data3 k3 (Lib.hid ht)
  rw [if_neg k3]
  by_cases k4 : k = 4
  · rw [if_pos k4]
    cases al
    · exact data4f k4 rfl
    · exact data4t k4 rfl
  rw [if_neg k4]
  by_cases k5 : k = 5
  · rw [if_pos k5]; exact data5 k5
  rw [if_neg k5]
  by_cases k6 : k = 6
  · rw [if_pos k6]; exact data6 k6
  rw [if_neg k6]
  by_cases k7 : k = 7
  · rw [if_pos k7]; exact data7 k7
  rw [if_neg k7]
  by_cases k8 : k = 8
  · rw [if_pos k8]; exact data8 k8
  rw [if_neg k8]
  by_cases k9 : k = 9
  · rw [if_pos k9]; exact data9 k9 h2 n2
  rw [if_neg k9]
  exact data0 (beq_eq_false_iff_ne.2 k1) (beq_eq_false_iff_ne.2 k2) (beq_eq_false_iff_ne.2 k3) (beq_eq_false_iff_ne.2 k4) (beq_eq_false_iff_ne.2 k5) (beq_eq_false_iff_ne.2 k6) (beq_eq_false_iff_ne.2 k7) (beq_eq_false_iff_ne.2 k8) (beq_eq_false_iff_ne.2 k9)

end Go.Proofs.YtfambgigdhkiaaaDoor
