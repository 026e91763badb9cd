/-
The plain law of the line of works(): what a link makes of Hello's words, and of the form. No condition.
Small functions of works(): form, Wrap, pages, model, page. No condition.
slices.Grow of nil and slices.Concat, of bytes that a list of slices holds. Conditions: no more than 65536 bytes in all, and one at least.
What host.Hello says to a terminal without TN3270E; host.Wrap. No condition but a record's.
-/
import Derived.Test.YtamfjgioajmnpaaGreatDoorJa44
import Derived.Test.YtamfjgioajmnpaaGreatDoorJa28
import Derived.Deep.RegionLaw
import Derived.Test.YtamfjgioajmnpaaGreatDoorJa2
import Derived.Test.YtamfjgioajmnpaaGreatDoorJa1
import Derived.Lib.AppendZeros
import Derived.Test.YtamfjgioajmnpaaGreatDoorJa31
namespace Go.Proofs.YtamfjgioajmnpaaGreatDoor
open Go.RowKit
set_option linter.unusedVariables false
set_option linter.unusedSimpArgs false

def lkStep (L : LkT) (e : EvT) : LkT := (takeLk L e).1
theorem take_quiet (L : LkT) (e : EvT) (h : e.kind ≠ 1) (h0 : e.kind = 2 ∨ e.kind = 3 ∨ e.kind = 0 ∨ e.kind = 1) : (takeLk L e).2 = none := by
  unfold takeLk
  split
  · rfl
  split
  · rfl
  split
  · rfl
  · omega
theorem fold_quiet {ρ : Type} {bd : LkT → ρ → LEv → LkT × ρ} (r : ρ) : ∀ (l : List EvT) (L : LkT), (∀ e ∈ l, e.kind ≠ 1 ∧ (e.kind = 2 ∨ e.kind = 3 ∨ e.kind = 0 ∨ e.kind = 1)) → l.foldl (stepLk bd) (L, r) = (l.foldl lkStep L, r)
  | [], L, _ => rfl
  | e :: l, L, h => by
    have he := h e (by simp)
    have hs : stepLk bd (L, r) e = (lkStep L e, r) := by
      have := take_quiet L e he.1 he.2
      unfold stepLk lkStep
      simp only [this]
    rw [List.foldl_cons, hs, List.foldl_cons]
    exact fold_quiet r l _ (fun e he => h e (by simp [he]))
def sName : ByteArray := ⟨#[73, 66, 77, 45, 51, 50, 55, 56, 45, 50, 45, 69]⟩
theorem sName_ok : NameOk sName := by
  have hall : ∀ b ∈ sName.data.toList, 33 ≤ (b.toNat : Int) ∧ (b.toNat : Int) ≤ 126 := by decide
  refine ⟨fun k h => hall _ ?_, by kernel_rfl, by decide⟩
  exact Array.mem_toList_iff.2 (Array.getElem_mem (xs := sName.data) h)
def lk0 : LkT := newLk sName [2] false
def helloE : List EvT := [⟨2, 253, 24, [], false, false⟩, ⟨3, 0, 24, [1], false, false⟩, ⟨2, 253, 25, [], false, false⟩, ⟨2, 251, 25, [], false, false⟩, ⟨2, 253, 0, [], false, false⟩, ⟨2, 251, 0, [], false, false⟩]
theorem hello_out : (feedT lk0.rd helloL).out = helloE := by
  show (feedT RdT.zero helloL).out = helloE
  rw [feed_hello]
  rfl
def lk0f : LkT := { lk0 with rd := { feedT lk0.rd helloL with out := [] } }
def lkH (j : Nat) : LkT := (helloE.take j).foldl lkStep lk0f
theorem hello_kinds : ∀ e ∈ helloE, e.kind ≠ 1 ∧ (e.kind = 2 ∨ e.kind = 3 ∨ e.kind = 0 ∨ e.kind = 1) := by decide
set_option maxRecDepth 100000 in
theorem hello_ok (j : Nat) (e : EvT) (he : helloE[j]? = some e) : TkOk (lkH j) e := by
  have hj : j < 6 := (List.getElem?_eq_some_iff.1 he).1
  match j, hj, he with
  | 0, _, he => cases he; exact ⟨by decide, by decide, by decide, fun h => absurd h (by decide), fun h => absurd h (by decide), fun h => absurd h (by decide), by decide, by decide⟩
  | 1, _, he => cases he; exact ⟨by decide, by decide, by decide, fun h => ⟨rfl, rfl, rfl, rfl, by kernel_rfl, by kernel_rfl, by decide, by decide⟩, fun h => absurd h (by decide), fun h => absurd h (by decide), by decide, by decide⟩
  | 2, _, he => cases he; exact ⟨by decide, by decide, by decide, fun h => absurd h (by decide), fun h => absurd h (by decide), fun h => absurd h (by decide), by decide, by decide⟩
  | 3, _, he => cases he; exact ⟨by decide, by decide, by decide, fun h => absurd h (by decide), fun h => absurd h (by decide), fun h => absurd h (by decide), by decide, by decide⟩
  | 4, _, he => cases he; exact ⟨by decide, by decide, by decide, fun h => absurd h (by decide), fun h => absurd h (by decide), fun h => absurd h (by decide), by decide, by decide⟩
  | 5, _, he => cases he; exact ⟨by decide, by decide, by decide, fun h => absurd h (by decide), fun h => absurd h (by decide), fun h => absurd h (by decide), by decide, by decide⟩
def lk1 : LkT := lkH 6
/-- the link when what it said is taken -/
def lk2 : LkT := { lk1 with out := [] }
set_option maxRecDepth 100000 in
theorem lk1_mode : lk1.mode = 1 := by kernel_rfl
set_option maxRecDepth 100000 in
theorem lk1_rd : lk1.rd = { RdT.zero with verb := 251, opt := 24 } := by kernel_rfl
set_option maxRecDepth 100000 in
theorem lk1_mkr : lk1.mkr = ⟨[], false⟩ := by kernel_rfl
set_option maxRecDepth 100000 in
theorem lk1_modeT : modeT lk1.S lk1.en.st = 1 := by kernel_rfl
def formE : List EvT := [⟨0, 0, 0, formL, false, false⟩, ⟨1, 239, 0, [], false, false⟩]
theorem form_feed : feedT lk2.rd (formL ++ [255, 239]) = { lk2.rd with out := formE } := by
  show feedT lk1.rd (formL ++ [255, 239]) = { lk1.rd with out := formE }
  rw [lk1_rd, feed_form]
  rfl
theorem lk2_data : lkStep lk2 ⟨0, 0, 0, formL, false, false⟩ = { lk2 with mkr := ⟨formL, false⟩ } := by
  have h1 : modeT lk2.S lk2.en.st = lk2.mode := by
    show modeT lk1.S lk1.en.st = lk1.mode
    rw [lk1_mode, lk1_modeT]
  have h2 : addT lk2.mkr formL = ⟨formL, false⟩ := by
    show addT lk1.mkr formL = _
    rw [lk1_mkr]
    rfl
  unfold lkStep takeLk
  rw [if_neg (by decide), if_neg (by decide), if_pos rfl]
  simp only [h2]
  unfold settleT
  simp only
  rw [if_pos h1]
end Go.Proofs.YtamfjgioajmnpaaGreatDoor
namespace Go.Proofs.YtamfjgioajmnpaaGreatDoor
open Go.RowKit
set_option linter.unusedVariables false
set_option linter.unusedSimpArgs false

theorem form_is (w : World) : Calls Tryz.prog 47 #[] w fun e w' => ∃ A, e = .returned (.slice A 17 17) ∧ Bt w' (fun g => w.heap.size ≤ g) A 17 17 formL ∧ Up w w' := by
  go_enter Tryz.func47, Tryz.ntmps47
  go_wp2
  go_ret
  have hu : Up w (w.alloc (.cells #[.int .u8 245, .int .u8 195, .int .u8 17, .int .u8 64, .int .u8 64, .int .u8 29, .int .u8 96, .int .u8 213, .int .u8 29, .int .u8 64, .int .u8 19, .int .u8 0, .int .u8 0, .int .u8 0, .int .u8 0, .int .u8 29, .int .u8 240] 5)) := (Up.refl w).alloc _
  refine ⟨_, rfl, ⟨(reads_at w w.heap.size 1 17 (bs formL).toArray 5 rfl rfl).more (by simp), Nat.le_refl _, by simp [maxLen], fun g hg => ?_, by unfold BL; decide, fun g hg => ?_⟩, hu⟩
  · simp [blk] at hg
    omega
  · simp [blk] at hg
    subst hg
    exact ⟨_, _, St.new w 5 (bs formL) rfl⟩
theorem wrap_is {w : World} {G : Nat → Prop} {A : Option Addr} {n c : Nat} {p : List Int} (hp : Bt w G A n c p) (h : (255 : Int) ∉ p) (hn : n ≤ 1000000000) :
    Calls Tryz.prog 46 #[.slice A n c] w (NB w (p ++ [255, 239])) := by
  have HR := Lib.hid (recBytes_is hp h hn)
  rw [escT_none h] at HR
  clear hp h
  go_enter Tryz.func46, Tryz.ntmps46
  go_wp2_with fail
  refine HR.out.mono ?_
  rintro e w1 ⟨A1, c1, rfl, h3, h4⟩
  have H3 := Lib.hid h3
  have H4 := Lib.hid h4
  clear h3 h4
  simp only [List.length_append, List.length_cons, List.length_nil, Nat.zero_add, Nat.reduceAdd]
  go_wp2_with fail
  go_ret
  exact ⟨A1, c1, by simp [go_sem], H3.out, H4.out⟩
theorem pages_is (w : World) : Calls Tryz.prog 51 #[] w fun e w' => e = .returned (.slice (some ⟨w.heap.size, 0, none⟩) 6 6) ∧ w'.cell? ⟨w.heap.size, 0, none⟩ = some (.int .i64 37) ∧ w.heap.size < w'.heap.size ∧ Up w w' := by
  go_enter Tryz.func51, Tryz.ntmps51
  go_wp2
  go_ret
  exact ⟨rfl, by simp [go_sem], by simp, by (repeat (first | with_reducible exact Up.refl _ | with_reducible refine Up.alloc ?_ _ | with_reducible refine Up.drew ?_ | with_reducible refine Up.drewN ?_ _ | with_reducible refine Up.setCell ?_ (by (try simp) <;> omega) _ | with_reducible assumption | with_reducible refine Up.trans ?_ (by assumption)))⟩
theorem model_is (x : Bool) (w : World) : Calls Tryz.prog 11 #[.agg #[.int .u8 0, .int .u8 0, .bool x]] w fun e w' => e = .returned (.int .i64 2) ∧ Up w w' := by
  go_enter Tryz.func11, Tryz.ntmps11
  go_wp2
  go_ret
  exact ⟨rfl, by (repeat (first | with_reducible exact Up.refl _ | with_reducible refine Up.alloc ?_ _ | with_reducible refine Up.drew ?_ | with_reducible refine Up.drewN ?_ _ | with_reducible refine Up.setCell ?_ (by (try simp) <;> omega) _ | with_reducible assumption | with_reducible refine Up.trans ?_ (by assumption)))⟩
theorem page_is (x : Bool) (w : World) : Calls Tryz.prog 12 #[.agg #[.int .u8 0, .int .u8 0, .bool x]] w fun e w' => e = .returned (.int .i64 37) ∧ Up w w' := by
  obtain ⟨W0, hW0⟩ : ∃ W0, w.alloc (.cells #[.int .u8 0, .int .u8 0, .bool x] 23) = W0 := ⟨_, rfl⟩
  have hu0 : Up w W0 := by rw [← hW0]; exact (Up.refl w).alloc _
  have sb : St W0 23 w.heap.size [.int .u8 0, .int .u8 0, .bool x] := by rw [← hW0]; exact St.new w _ _ rfl
  have k1 := sb.cell 1 (v := .int .u8 0) rfl
  have zb := sb.lt
  have HU0 := Lib.hid hu0
  have HW0 := Lib.hid hW0
  clear hW0 sb hu0
  go_enter Tryz.func12, Tryz.ntmps12
  go_wp2_with fail
  rw [HW0.out]
  obtain ⟨B, hB⟩ : ∃ B, w.heap.size = B := ⟨_, rfl⟩
  rw [hB] at k1 zb ⊢
  clear hB
  go_region_law (go_simp; go_at_call 51; refine (pages_is _).mono ?_; rintro e w1 ⟨rfl, hc1, hz1, hu1⟩; obtain ⟨kc, -⟩ := hu1.at_ B (show B < W0.drew.heap.size from zb); have s1 := (kc 1).trans k1; have hc2 : w1.cell? ⟨W0.heap.size, 0, none⟩ = some (.int .i64 37) := hc1; have hz2 : W0.heap.size < w1.heap.size := hz1; have HU1 := Lib.hid hu1; clear hu1 kc hc1 hz1)
  all_goals
    go_wp2_with fail
    go_ret
    exact ⟨rfl, (HU0.out.drew).trans HU1.out⟩
end Go.Proofs.YtamfjgioajmnpaaGreatDoor
namespace Go.Proofs.YtamfjgioajmnpaaGreatDoor
open Go.RowKit
set_option linter.unusedVariables false
set_option linter.unusedSimpArgs false

theorem run_int6 : Tryz.prog.underlying 3 = some (.int .i64) := by kernel_rfl
set_option maxRecDepth 100000 in
set_option maxHeartbeats 1600000 in
theorem grow_nil6 (n : Nat) (h0 : 0 < n) (hn : n ≤ 65536) (w : World) :
    Calls Tryz.prog 99 #[.slice none 0 0, .int .i64 (n : Int)] w fun e w' => ∃ g c, e = .returned (.slice (some ⟨g, 0, none⟩) 0 c) ∧ w'.ownsRow w.heap.size 5 1 (.slice (some ⟨g, 0, none⟩) 0 c) 0 [] ∧ c ≤ maxLen ∧ Up w w' := by
  obtain ⟨i0, hi, hz0, hz1, hz2⟩ := info_parts info_u8
  have hr := Lib.run_append_nil_zeros (P := Tryz.prog) w 30 3 30 5 i0 _ .i64 .i64 Tryz.underlying30 run_int6 hi hz0 n h0 (by omega) (by omega) (by rw [hz2]; omega)
  have hcm := grownCap_le_maxLen w n 0 5 (by simp [maxLen]; omega)
  have hcg := grownCap_ge w n 0 5
  obtain ⟨C, hC⟩ : ∃ C, grownCap w n 0 5 = C := ⟨_, rfl⟩
  rw [hC] at hr hcm hcg
  have hown := World.ownsRow_made (base := w.heap.size) (size := 1) (e := 5) w.drew (Builtin.zeroCells (Value.int .u8 0).cells n ++ Builtin.zeroCells (Value.int .u8 0).cells (C - n)) C (Nat.le_refl _) hcm (by simp [Builtin.zeroCells, Value.cells]; omega)
  have hup : Up w (w.drew.alloc (.cells (Builtin.zeroCells (Value.int .u8 0).cells n ++ Builtin.zeroCells (Value.int .u8 0).cells (C - n)) 5)) := ((Up.refl w).drew).alloc _
  generalize (w.drew.alloc (.cells (Builtin.zeroCells (Value.int .u8 0).cells n ++ Builtin.zeroCells (Value.int .u8 0).cells (C - n)) 5)) = w1 at *
  have HR := Lib.hid hr
  have HO := Lib.hid hown
  have HU := Lib.hid hup
  have hC9 : (C : Int) ≤ 9223372036854775807 := by simp [maxLen] at hcm; omega
  have h0' : (0 : Int) < (n : Int) := by omega
  have hC0 : (0 : Int) ≤ (C : Int) := by omega
  clear hr hown hup hC
  go_enter Tryz.func99, Tryz.ntmps99
  go_wp2_with (at_builtin; refine Lib.wpList_append_run _ rfl (.tmp 20) (.tmp 21) 30 3 rfl _ _ rfl rfl _ _ HR.out ?_)
  go_ret
  exact ⟨w.heap.size, C, rfl, HO.out, hcm, HU.out⟩
abbrev Inn6 := Option Addr × Nat × List Int
theorem take_snoc6 {α : Type} {xs : List α} {j : Nat} {x : α} (h : xs[j]? = some x) : xs.take (j + 1) = xs.take j ++ [x] := by
  rw [List.take_add_one, h]
  rfl
/-- a list of slices of bytes that is written out -/
structure RowS (w : World) (g c : Nat) (xs : List Inn6) : Prop where
  at_ : ∀ j x, xs[j]? = some x → w.cell? ⟨g, j, none⟩ = some (.slice x.1 x.2.2.length x.2.1) ∧ Sl 0 w x.1 x.2.2.length x.2.1 x.2.2
  lt : g < w.heap.size
  le : xs.length ≤ c
  mx : c ≤ maxLen
theorem RowS.up {w w' : World} {g c : Nat} {xs : List Inn6} (h : RowS w g c xs) (hu : Up w w') : RowS w' g c xs :=
  ⟨fun j x hx => ⟨((hu.at_ g h.lt).1 j).trans (h.at_ j x hx).1, (h.at_ j x hx).2.up hu⟩, Nat.lt_of_lt_of_le h.lt hu.size, h.le, h.mx⟩
theorem bs6_at {w : World} {g c : Nat} {xs : List Inn6} (h : RowS w g c xs) {j : Nat} {x : Inn6} (hj : xs[j]? = some x) : g < w.heap.size ∧ w.cell? ⟨g, j, none⟩ = some (.slice x.1 x.2.2.length x.2.1) ∧ Sl 0 w x.1 x.2.2.length x.2.1 x.2.2 := ⟨h.lt, h.at_ j x hj⟩
def cat6 (xs : List Inn6) : List Int := xs.flatMap (·.2.2)
theorem cat6_snoc {xs : List Inn6} {j : Nat} {x : Inn6} (h : xs[j]? = some x) : cat6 (xs.take (j + 1)) = cat6 (xs.take j) ++ x.2.2 := by
  unfold cat6
  rw [take_snoc6 h, List.flatMap_append]
  simp
theorem cat6_take (xs : List Inn6) (j : Nat) : (cat6 (xs.take j)).length ≤ (cat6 xs).length := by
  have : xs = xs.take j ++ xs.drop j := (List.take_append_drop j xs).symm
  have h : cat6 xs = cat6 (xs.take j) ++ cat6 (xs.drop j) := by
    unfold cat6
    rw [← List.flatMap_append, List.take_append_drop]
  rw [h, List.length_append]
  omega
set_option maxRecDepth 100000 in
set_option maxHeartbeats 6400000 in
theorem concat6_is {g0 N c : Nat} {xs : List Inn6} {w : World} (h : RowS w g0 c xs) (hN : xs.length = N) (hs : (cat6 xs).length ≤ 65536) (h0 : 0 < (cat6 xs).length) :
    Calls Tryz.prog 52 #[.slice (some ⟨g0, 0, none⟩) N c] w fun e w' => ∃ A' c', e = .returned (.slice A' (cat6 xs).length c') ∧ Sl w.heap.size w' A' (cat6 xs).length c' (cat6 xs) ∧ w'.ownsRow w.heap.size 5 1 (.slice A' (cat6 xs).length c') (cat6 xs).length (bs (cat6 xs)) ∧ Up w w' := by
  obtain ⟨i0, hi, hz0, hz1, hz2⟩ := info_parts info_u8
  have HF := Lib.hid h
  have HN := Lib.hid hN
  have hzz1 := hz1
  have hN9 : (N : Int) ≤ 9223372036854775807 := by have := h.le; have := h.mx; simp [maxLen] at this; omega
  have hcat := Lib.hid (cat6_take xs)
  obtain ⟨T, hT⟩ : ∃ T, (cat6 xs).length = T := ⟨_, rfl⟩
  rw [hT] at hs h0 hcat
  rw [hT]
  have HT := Lib.hid hT
  have hbl : BL (cat6 xs) := by
    intro y hy
    unfold cat6 at hy
    obtain ⟨x, hx, hyx⟩ := List.mem_flatMap.1 hy
    obtain ⟨j, hj⟩ := List.mem_iff_getElem?.1 hx
    exact (h.at_ j x hj).2.bytes y hyx
  have HBL := Lib.hid hbl
  clear h hN hT hbl
  go_enter Tryz.func52, Tryz.ntmps52
  go_wp2_with fail
  go_loop [3, 11] (fun v i => ∃ j : Nat, i = .int .i64 (j : Int) ∧ v = .int .i64 ((cat6 (xs.take j)).length : Int) ∧ j ≤ N) (fun _ i => N - (intOf i).toNat)
  case atStart => exact ⟨0, rfl, rfl, Nat.zero_le _⟩
  case round =>
    obtain ⟨j, rfl, rfl, hj⟩ := hrel
    have hb1 := hcat.out j
    by_cases hlt : j < N
    · obtain ⟨x, hx⟩ : ∃ x, xs[j]? = some x := ⟨_, List.getElem?_eq_getElem (by have := HN.out; omega)⟩
      obtain ⟨hbf, x0, sx⟩ := bs6_at HF.out hx
      have hb2 := hcat.out (j + 1)
      rw [cat6_snoc hx, List.length_append] at hb2
      obtain ⟨Ax, cx, d⟩ := x
      simp only at x0 hb2
      have HX := Lib.hid (show (cat6 (xs.take (j + 1))).length = (cat6 (xs.take j)).length + d.length by rw [cat6_snoc hx, List.length_append])
      obtain ⟨K, hK⟩ : ∃ K, (cat6 (xs.take j)).length = K := ⟨_, rfl⟩
      rw [hK] at hb1 hb2 HX
      rw [hK]
      have hlt' : (j : Int) < N := by omega
      have hkk : (K : Int) + (d.length : Int) ≤ 65536 := by omega
      have hk0 : (0 : Int) ≤ (K : Int) + (d.length : Int) := by omega
      clear hx sx hK
      go_wp2_with fail
      go_round
      case rel => exact ⟨j + 1, by go_num, by rw [HX.out]; push_cast; rfl, by omega⟩
      case measure => simp [intOf]; omega
    · obtain rfl : j = N := by omega
      have hall : xs.take j = xs := List.take_of_length_le (by rw [HN.out]; exact Nat.le_refl _)
      rw [hall, HT.out]
      clear hall
      go_wp2_with (go_at_call 99; refine (grow_nil6 T h0 hs _).mono ?_; rintro e w1 ⟨g, cg, rfl, hg1, hg2, hg3⟩; have HG1 := Lib.hid hg1; have HG3 := Lib.hid hg3; clear hg1 hg3)
      have hz1 := HG3.out.size
      go_loopw [6, 27] (fun v i wr => ∃ (k : Nat) (A1 : Option Addr) (c1 m1 : Nat), i = .int .i64 (k : Int) ∧ v = .slice A1 m1 c1 ∧ k ≤ j ∧ m1 = (cat6 (xs.take k)).length ∧ wr.ownsRow w.heap.size 5 1 (.slice A1 m1 c1) m1 (bs (cat6 (xs.take k))) ∧ m1 ≤ c1 ∧ c1 ≤ maxLen ∧ Up w wr) (fun _ i _ => j - (intOf i).toNat)
      case atStart => exact ⟨0, some ⟨g, 0, none⟩, cg, 0, rfl, rfl, Nat.zero_le _, rfl, HG1.out, Nat.zero_le _, hg2, HG3.out⟩
      case round =>
        obtain ⟨k, A1, c1, m1, rfl, rfl, hk, hm1, hown, hle, hmx, hup⟩ := hrel
        have hb1 := hcat.out k
        have HOW := Lib.hid hown
        have HUP := Lib.hid hup
        have HM1 := Lib.hid hm1
        have hwr : w.heap.size ≤ wr.heap.size := hup.size
        clear hown hup
        by_cases hlt : k < j
        · obtain ⟨x, hx⟩ : ∃ x, xs[k]? = some x := ⟨_, List.getElem?_eq_getElem (by have := HN.out; omega)⟩
          obtain ⟨hbf, x0, sx⟩ := bs6_at (HF.out.up HUP.out) hx
          have hb2 := hcat.out (k + 1)
          rw [cat6_snoc hx, List.length_append] at hb2
          obtain ⟨Ax, cx, d⟩ := x
          simp only at x0 hb2 sx
          have HX := Lib.hid (show cat6 (xs.take (k + 1)) = cat6 (xs.take k) ++ d from cat6_snoc hx)
          have SX := Lib.hid sx
          have hlt' : (k : Int) < (j : Int) := by omega
          have hq1 : m1 + d.length ≤ maxLen := by simp [maxLen]; omega
          have hq2 : (m1 + d.length) * 1 ≤ 140737488355328 := by omega
          clear hx sx hm1
          go_wp2_with (at_builtin; refine wpList_app _ rfl (.tmp 31) (.tmp 32) 30 rfl w.heap.size 5 i0 _ 1 1 Tryz.underlying30 hi hz0 hzz1 hz2 rfl (by decide) A1 m1 c1 (bs (cat6 (xs.take k))) rfl HOW.out wr.heap.size Ax d.length cx (bs d) rfl SX.out.rd (one_u8 d) hq1 hq2 hwr ?_; intro A3 c3 w5 hown5 hg5 hle5 hmx5 hbl5; have HO5 := Lib.hid hown5; have HB5 := Lib.hid hbl5; clear hown5 hg5 hbl5)
          go_roundw
          case rel =>
            refine ⟨k + 1, A3, c3, m1 + d.length, by go_num, rfl, by omega, by rw [HX.out, List.length_append, HM1.out], ?_, hle5, hmx5, HUP.out.past HB5.out⟩
            rw [HX.out]
            have e9 : bs (cat6 (xs.take k) ++ d) = bs (cat6 (xs.take k)) ++ bs d := by simp [bs]
            rw [e9]
            exact HO5.out
          case measure => simp [intOf]; omega
        · obtain rfl : k = j := by omega
          have hall : xs.take k = xs := List.take_of_length_le (by rw [HN.out]; exact Nat.le_refl _)
          have hm : m1 = T := by rw [HM1.out, hall, HT.out]
          subst hm
          have hoo := HOW.out
          rw [hall] at hoo
          have HO := Lib.hid hoo
          clear hoo hall hm1
          go_wp2_with fail
          go_ret
          exact ⟨A1, c1, rfl, Sl.of_own HO.out hle hmx hs HBL.out, HO.out, HUP.out⟩
end Go.Proofs.YtamfjgioajmnpaaGreatDoor
namespace Go.Proofs.YtamfjgioajmnpaaGreatDoor
open Go.RowKit
set_option linter.unusedVariables false
set_option linter.unusedSimpArgs false

/-- telnet.Say: three bytes in a block of their own -/
theorem say3_is (v o : Int) (w : World) (hv : 0 ≤ v ∧ v ≤ 255) (ho : 0 ≤ o ∧ o ≤ 255) : Calls Tryz.prog 53 #[.int .u8 v, .int .u8 o] w fun e w' => e = .returned (.slice (some ⟨w.heap.size, 0, none⟩) 3 3) ∧ Sl 0 w' (some ⟨w.heap.size, 0, none⟩) 3 3 [255, v, o] ∧ Up w w' := by
  go_enter Tryz.func53, Tryz.ntmps53
  go_wp2
  go_ret
  have hu : Up w (w.alloc (.cells #[.int .u8 255, .int .u8 v, .int .u8 o] 5)) := (Up.refl w).alloc _
  refine ⟨rfl, ⟨(reads_at w w.heap.size 1 3 #[.int .u8 255, .int .u8 v, .int .u8 o] 5 rfl rfl).more (by simp), Nat.le_refl _, by simp [maxLen], fun _ _ => Nat.zero_le _, by omega, BL.cons (by omega) (BL.cons hv (BL.cons ho BL.nil)), fun p hp => ?_⟩, hu⟩
  injection hp with hp
  subst hp
  exact ⟨_, _, St.new w 5 [.int .u8 255, .int .u8 v, .int .u8 o] rfl⟩
theorem hello_is (s : ByteArray) (A : Option Addr) (n c : Nat) (w : World) :
    Calls Tryz.prog 13 #[.bool false, .string s, .slice A n c] w fun e w' => ∃ A' c', e = .returned (.slice A' helloL.length c') ∧ Sl w.heap.size w' A' helloL.length c' helloL ∧ Up w w' := by
  have hnot : ∀ (x : Bool) (w : World), (Op.unary .not (.bool x)).run Tryz.prog w = .ok (.bool (!x)) w := fun _ _ => rfl
  go_enter Tryz.func13, Tryz.ntmps13
  go_wp2_with fail
  refine (say3_is 253 24 w (by omega) (by omega)).mono ?_
  rintro e w1 ⟨rfl, hs1, hu1⟩
  have S1 := Lib.hid hs1
  have U1 := Lib.hid hu1
  clear hs1 hu1
  go_wp2_with fail
  have hu2 : Up w1 (w1.alloc (.cells #[.int .u8 1] 5)) := (Up.refl w1).alloc _
  have hb1 : Bt (w1.alloc (.cells #[.int .u8 1] 5)) (fun _ => True) (some ⟨w1.heap.size, 0, none⟩) 1 1 [1] := ⟨(reads_at w1 w1.heap.size 1 1 #[.int .u8 1] 5 rfl rfl).more (by simp), Nat.le_refl _, by simp [maxLen], fun _ _ => trivial, BL.cons (by omega) BL.nil, fun g hg => by
    simp [blk] at hg
    subst hg
    exact ⟨_, _, St.new w1 5 [.int .u8 1] rfl⟩⟩
  have HSUB := Lib.hid (subBytes_is (o := 24) hb1 (by simp) (by omega))
  rw [show ([255, 250, 24] ++ escT [1] ++ [255, 240] : List Int) = [255, 250, 24, 1, 255, 240] from by decide] at HSUB
  refine HSUB.out.mono ?_
  rintro e w2 ⟨A2, c2, rfl, hr2, hu2'⟩
  have hsl2 : Sl 0 w2 A2 6 c2 [255, 250, 24, 1, 255, 240] := ⟨hr2.reads, hr2.le, hr2.mx, fun _ _ => Nat.zero_le _, by omega, by unfold BL; decide, fun p hp => hr2.tag (blk_some hp)⟩
  have S2 := Lib.hid hsl2
  have U2 := Lib.hid (hu2.trans hu2')
  clear hr2 hu2' hb1 hsl2 hu2
  simp only [List.length_cons, List.length_nil, Nat.zero_add, Nat.reduceAdd]
  go_wp2_with fail
  refine (say3_is 253 25 w2 (by omega) (by omega)).mono ?_
  rintro e w3 ⟨rfl, hs3, hu3⟩
  have S3 := Lib.hid hs3
  have U3 := Lib.hid hu3
  clear hs3 hu3
  go_wp2_with fail
  refine (say3_is 251 25 w3 (by omega) (by omega)).mono ?_
  rintro e w4 ⟨rfl, hs4, hu4⟩
  have S4 := Lib.hid hs4
  have U4 := Lib.hid hu4
  clear hs4 hu4
  go_wp2_with fail
  refine (say3_is 253 0 w4 (by omega) (by omega)).mono ?_
  rintro e w5 ⟨rfl, hs5, hu5⟩
  have S5 := Lib.hid hs5
  have U5 := Lib.hid hu5
  clear hs5 hu5
  go_wp2_with fail
  refine (say3_is 251 0 w5 (by omega) (by omega)).mono ?_
  rintro e w6 ⟨rfl, hs6, hu6⟩
  have S6 := Lib.hid hs6
  have U6 := Lib.hid hu6
  clear hs6 hu6
  go_wp2_with fail
  have u36 : Up w3 w6 := (U4.out.trans U5.out).trans U6.out
  have u26 : Up w2 w6 := U3.out.trans u36
  have u16 : Up w1 w6 := U2.out.trans u26
  have u6 : Up w w6 := U1.out.trans u16
  have XS : ∃ xs : List Inn6, xs = [(some ⟨w.heap.size, 0, none⟩, 3, [255, 253, 24]), (A2, c2, [255, 250, 24, 1, 255, 240]), (some ⟨w2.heap.size, 0, none⟩, 3, [255, 253, 25]), (some ⟨w3.heap.size, 0, none⟩, 3, [255, 251, 25]), (some ⟨w4.heap.size, 0, none⟩, 3, [255, 253, 0]), (some ⟨w5.heap.size, 0, none⟩, 3, [255, 251, 0])] := ⟨_, rfl⟩
  obtain ⟨xs, hxs⟩ := XS
  have hu7 : Up w6 (w6.alloc (.cells #[.slice (some ⟨w.heap.size, 0, none⟩) 3 3, .slice A2 6 c2, .slice (some ⟨w2.heap.size, 0, none⟩) 3 3, .slice (some ⟨w3.heap.size, 0, none⟩) 3 3, .slice (some ⟨w4.heap.size, 0, none⟩) 3 3, .slice (some ⟨w5.heap.size, 0, none⟩) 3 3] 30)) := (Up.refl w6).alloc _
  have hrow : RowS (w6.alloc (.cells #[.slice (some ⟨w.heap.size, 0, none⟩) 3 3, .slice A2 6 c2, .slice (some ⟨w2.heap.size, 0, none⟩) 3 3, .slice (some ⟨w3.heap.size, 0, none⟩) 3 3, .slice (some ⟨w4.heap.size, 0, none⟩) 3 3, .slice (some ⟨w5.heap.size, 0, none⟩) 3 3] 30)) w6.heap.size 6 xs := by
    subst hxs
    refine ⟨fun j x hx => ?_, by simp, by simp, by simp [maxLen]⟩
    match j, hx with
    | 0, hx => cases hx; exact ⟨by simp [go_sem], S1.out.up (u16.trans hu7)⟩
    | 1, hx => cases hx; exact ⟨by simp [go_sem], S2.out.up (u26.trans hu7)⟩
    | 2, hx => cases hx; exact ⟨by simp [go_sem], S3.out.up (u36.trans hu7)⟩
    | 3, hx => cases hx; exact ⟨by simp [go_sem], S4.out.up ((U5.out.trans U6.out).trans hu7)⟩
    | 4, hx => cases hx; exact ⟨by simp [go_sem], S5.out.up (U6.out.trans hu7)⟩
    | 5, hx => cases hx; exact ⟨by simp [go_sem], S6.out.up hu7⟩
  have hcat : cat6 xs = helloL := by subst hxs; rfl
  have HC := Lib.hid (concat6_is (c := 6) (N := 6) hrow (by subst hxs; rfl) (by rw [hcat]; decide) (by rw [hcat]; decide))
  rw [hcat] at HC
  refine HC.out.mono ?_
  rintro e w8 ⟨A', c', rfl, hs8, -, hu8⟩
  have HS8 := Lib.hid hs8
  have HU8 := Lib.hid hu8
  clear hs8 hu8 hrow
  go_wp2_with fail
  go_ret
  exact ⟨A', c', rfl, HS8.out.low ((u6.trans hu7).size), (u6.trans hu7).trans HU8.out⟩
end Go.Proofs.YtamfjgioajmnpaaGreatDoor
