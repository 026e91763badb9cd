/-
  The reference's Acts: what all fields ask for, up to the first error, and that. No condition but the slice's own reach.
-/
import Derived.Test.YtfambgigdhkiaaaDoorRAll
import Derived.Test.YtfambgigdhkiaaaDoorROf4
import Derived.Test.YtfambgigdhkiaaaDoorAwake21
import Derived.Deep.DeepMust
namespace Go.Proofs.YtfambgigdhkiaaaDoor
open Go.RowKit
set_option linter.unusedVariables false
set_option linter.unusedSimpArgs false

theorem info_ra : (Tryd.prog.info? 26).map (fun i => (i.zero, i.size, i.bytes)) = some (some (.agg #[.int .i64 0, .int .i64 0, .int .i64 0, .bool false, .int .u8 0, .slice none 0 0, .slice none 0 0]), 7, 80) := by kernel_rfl
theorem ne_ra : 26 ≠ 5 := by decide
theorem take_snoc {α : Type} {xs : List α} {j : Nat} {x : α} (h : xs[j]? = some x) : xs.take (j + 1) = xs.take j ++ [x] := by
  rw [List.take_add_one, h]
  rfl
/-- how the loop stands -/
def RActS (w : World) (xs : List RF) (j : Nat) (A : Option Addr) (c : Nat) (ys : List EA) (wr : World) : Prop :=
  FL 26 7 EA.cells EA.inn w.heap.size wr A c ys ∧ ys.map EA.a = ((xs.map RF.bare).take j).map asks ∧ (∀ y ∈ (xs.map RF.bare).take j, okAct y) ∧ Up w wr
set_option maxRecDepth 100000 in
set_option maxHeartbeats 6400000 in
theorem racts_is {B : Nat} {A : Option Addr} {n c : Nat} {l : List Int} {w : World} (h : Sl B w A n c l) :
    Calls Tryd.prog 24 #[.slice A n c] w fun e w' => ∃ A' c' ys, e = .returned (.tuple #[.slice A' ys.length c', .int .i64 (actsOf l).2]) ∧ FL 26 7 EA.cells EA.inn w.heap.size w' A' c' ys ∧ ys.map EA.a = (actsOf l).1 ∧ Up w w' := by
  obtain ⟨i0, hi, hz0, hz1, hz2⟩ := info_parts info_ra
  have HS := Lib.hid h
  have hln := flds_len l
  have hl := h.len
  have hsm := h.small
  clear h
  go_enter Tryd.func24, Tryd.ntmps24
  go_wp2_with fail
  refine (rall_is HS.out).mono ?_
  rintro e w1 ⟨AF, cF, xs, rfl, hfl, hmap, hu1⟩
  obtain ⟨ge, hge⟩ : ∃ ge, (fldsOf l).2 = ge := ⟨_, rfl⟩
  rw [hge]
  have HF := Lib.hid hfl
  have HMP := Lib.hid hmap
  have HU1 := Lib.hid hu1
  have HGE := Lib.hid hge
  obtain ⟨N, hN⟩ : ∃ N, xs.length = N := ⟨_, rfl⟩
  have hN6 : N ≤ 65536 := by
    have := congrArg List.length hmap
    rw [List.length_map] at this
    omega
  rw [hN]
  have HN := Lib.hid hN
  clear hfl hmap hu1 hge hln hl hN hsm
  go_wp2_with fail
  go_loopw [6, 18] (fun v i wr => ∃ (j : Nat) (A1 : Option Addr) (c1 m1 : Nat) (ys : List EA), i = .int .i64 (j : Int) ∧ v = .slice A1 m1 c1 ∧ ys.length = m1 ∧ m1 = j ∧ j ≤ N ∧ RActS w1 xs j A1 c1 ys wr) (fun _ i _ => N - (intOf i).toNat)
  case atStart => exact ⟨0, none, 0, 0, [], rfl, rfl, rfl, rfl, Nat.zero_le _, FL.nil, rfl, (by simp), Up.refl _⟩
  case round =>
    obtain ⟨j, A1, c1, m1, ys, rfl, rfl, hm1, hmj, hj, hfl, hy, hok, hup⟩ := hrel
    have HM1 := Lib.hid hm1
    have HMJ := Lib.hid hmj
    have HFL := Lib.hid hfl
    have HY := Lib.hid hy
    have HOK := Lib.hid hok
    have HUP := Lib.hid hup
    have hq1 : m1 + 1 ≤ maxLen := by simp [maxLen]; omega
    have hq2 : (m1 + 1) * 80 ≤ 140737488355328 := by omega
    clear hm1 hmj hfl hy hok hup
    by_cases hlt : j < N
    · obtain ⟨x, hx⟩ : ∃ x, xs[j]? = some x := ⟨_, List.getElem?_eq_getElem (by have := HN.out; omega)⟩
      obtain ⟨b, rfl, hb, x0, x1, sx⟩ := rf_at (HF.out.up HUP.out) hx
      have HX := Lib.hid (show (xs.map RF.bare)[j]? = some x.bare by rw [List.getElem?_map, hx]; rfl)
      have SX := Lib.hid sx
      clear sx hx
      have hlt' : (j : Int) < N := by omega
      obtain ⟨r, hr⟩ : ∃ r, actOf x.id x.l = r := ⟨_, rfl⟩
      have hof := Lib.hid (fun w' (hu : Up wr w') => rof_is (id := x.id) (SX.out.up hu))
      rw [hr] at hof
      have HRR := Lib.hid hr
      clear hr
      have hown := Lib.hid (show wr.ownsRow w1.heap.size 26 7 (.slice A1 m1 c1) m1 (ys.flatMap EA.cells) from by have := HFL.out.own; rw [HM1.out] at this; exact this)
      have hwr : w1.heap.size ≤ wr.heap.size := HUP.out.size
      by_cases hr2 : r.2 = 0
      · have e1 : (r.2 != 0) = false := by simpa using hr2
        have HR2 := Lib.hid hr2
        clear hr2
        go_wp2_with (first | (go_at_call 21; refine (hof.out _ (by (repeat (first | with_reducible exact Up.refl _ | with_reducible refine Up.alloc ?_ _ | with_reducible refine Up.drew ?_ | with_reducible refine Up.drewN ?_ _ | with_reducible refine Up.setCell ?_ (by (try simp) <;> omega) _ | with_reducible assumption | with_reducible refine Up.trans ?_ (by assumption))))).mono ?_; rintro e w4 ⟨B1, d1, B2, d2, rfl, s1, s2, u4⟩; have U4 := Lib.hid (show Up wr w4 by (repeat (first | with_reducible exact Up.refl _ | with_reducible refine Up.alloc ?_ _ | with_reducible refine Up.drew ?_ | with_reducible refine Up.drewN ?_ _ | with_reducible refine Up.setCell ?_ (by (try simp) <;> omega) _ | with_reducible assumption | with_reducible refine Up.trans ?_ (by assumption)))); have hz4 := U4.out.size; have S1 := Lib.hid s1; have S2 := Lib.hid s2; clear s1 s2; unfold actV) | (at_builtin; refine wpList_app _ rfl (.tmp 31) (.tmp 33) 22 rfl w1.heap.size 26 i0 _ 7 80 Tryd.underlying22 hi hz0 hz1 hz2 rfl (by decide) A1 m1 c1 (ys.flatMap EA.cells) rfl (own_up hown.out ((U4.out.alloc _).alloc _)) ((w4.alloc (.cells #[.int .i64 r.1.kind, .int .i64 r.1.cmd, .int .i64 r.1.mode, .bool r.1.alt, .int .u8 r.1.req, .slice B1 r.1.codes.length d1, .slice B2 r.1.rec_.length d2] 26)).heap.size + 1) (some ⟨w4.heap.size + 1, 0, none⟩) 1 1 [.int .i64 r.1.kind, .int .i64 r.1.cmd, .int .i64 r.1.mode, .bool r.1.alt, .int .u8 r.1.req, .slice B1 r.1.codes.length d1, .slice B2 r.1.rec_.length d2] rfl (reads_at (w4.alloc (.cells #[.int .i64 r.1.kind, .int .i64 r.1.cmd, .int .i64 r.1.mode, .bool r.1.alt, .int .u8 r.1.req, .slice B1 r.1.codes.length d1, .slice B2 r.1.rec_.length d2] 26)) (w4.heap.size + 1) 7 1 _ _ rfl (by simp)) (by simp [Value.oneCell']) hq1 hq2 (by simp; omega) ?_; intro A3 c3 w6 hown4 hg4 hle4 hmx4 hbl4; have HO4 := Lib.hid hown4; have HG4 := Lib.hid hg4; have HB4 := Lib.hid hbl4; clear hown4 hg4 hbl4))
        go_roundw
        case rel =>
          have hm := HM1.out
          subst hm
          have hup5 : Up wr ((w4.alloc (.cells #[.int .i64 r.1.kind, .int .i64 r.1.cmd, .int .i64 r.1.mode, .bool r.1.alt, .int .u8 r.1.req, .slice B1 r.1.codes.length d1, .slice B2 r.1.rec_.length d2] 26)).alloc (.cells #[.int .i64 r.1.kind, .int .i64 r.1.cmd, .int .i64 r.1.mode, .bool r.1.alt, .int .u8 r.1.req, .slice B1 r.1.codes.length d1, .slice B2 r.1.rec_.length d2] 26)) := (U4.out.alloc _).alloc _
          refine ⟨j + 1, A3, c3, ys.length + 1, ys ++ [⟨r.1, B1, d1, B2, d2⟩], by first | rfl | go_num, rfl, by simp, by rw [HMJ.out], by omega, ?_, ?_, ?_, (HUP.out.trans hup5).past HB4.out⟩
          · refine FL.push (HFL.out.up hup5) ne_ra (fun s hs => ?_) HG4.out HO4.out hle4 hmx4
            rw [show EA.inn ⟨r.1, B1, d1, B2, d2⟩ = [(B1, d1, r.1.codes), (B2, d2, r.1.rec_)] from rfl] at hs
            simp only [List.mem_cons, List.mem_nil_iff, or_false] at hs
            have hup6 : Up w4 ((w4.alloc (.cells #[.int .i64 r.1.kind, .int .i64 r.1.cmd, .int .i64 r.1.mode, .bool r.1.alt, .int .u8 r.1.req, .slice B1 r.1.codes.length d1, .slice B2 r.1.rec_.length d2] 26)).alloc (.cells #[.int .i64 r.1.kind, .int .i64 r.1.cmd, .int .i64 r.1.mode, .bool r.1.alt, .int .u8 r.1.req, .slice B1 r.1.codes.length d1, .slice B2 r.1.rec_.length d2] 26)) := ((Up.refl w4).alloc _).alloc _
            rcases hs with rfl | rfl
            · exact (S1.out.up hup6).low (by simp; omega)
            · exact (S2.out.up hup6).low (by simp; omega)
          · rw [take_snoc HX.out, List.map_append, List.map_append, HY.out]
            simp only [List.map_cons, List.map_nil]
            rw [show asks x.bare = r.1 from congrArg Prod.fst HRR.out]
          · intro y hy
            rw [take_snoc HX.out] at hy
            rcases List.mem_append.1 hy with hy | hy
            · exact HOK.out y hy
            · rw [List.mem_singleton.1 hy]
              show (actOf x.id x.l).2 = 0
              rw [HRR.out]
              exact HR2.out
        case measure => simp [intOf]; omega
      · have e1 : (r.2 != 0) = true := by simpa using hr2
        have HR2 := Lib.hid hr2
        clear hr2
        go_wp2_with (go_at_call 21; refine (hof.out _ (by (repeat (first | with_reducible exact Up.refl _ | with_reducible refine Up.alloc ?_ _ | with_reducible refine Up.drew ?_ | with_reducible refine Up.drewN ?_ _ | with_reducible refine Up.setCell ?_ (by (try simp) <;> omega) _ | with_reducible assumption | with_reducible refine Up.trans ?_ (by assumption))))).mono ?_; rintro e w4 ⟨B1, d1, B2, d2, rfl, s1, s2, u4⟩; have U4 := Lib.hid (show Up wr w4 by (repeat (first | with_reducible exact Up.refl _ | with_reducible refine Up.alloc ?_ _ | with_reducible refine Up.drew ?_ | with_reducible refine Up.drewN ?_ _ | with_reducible refine Up.setCell ?_ (by (try simp) <;> omega) _ | with_reducible assumption | with_reducible refine Up.trans ?_ (by assumption)))); have hz4 := U4.out.size; have S1 := Lib.hid s1; have S2 := Lib.hid s2; clear s1 s2; unfold actV)
        have hA := actsG_stop (pre := (xs.map RF.bare).take j) (x := x.bare) (xs := xs.map RF.bare) (g := ge) HOK.out (fun hh => HR2.out (by rw [← HRR.out]; exact hh)) (by rw [← take_snoc HX.out]; exact List.take_prefix _ _)
        rw [HMP.out, ← HGE.out] at hA
        have hA' : actsOf l = ((xs.map RF.bare).take j |>.map asks, r.2) := by
          show actsG (fldsOf l).1 (fldsOf l).2 = _
          rw [hA, show actOf x.bare.1 x.bare.2 = r from HRR.out, ← HMP.out]
        go_ret2
        refine ⟨A1, c1, ys, ?_, ((HFL.out.up (show Up wr _ by have := U4.out; (repeat (first | with_reducible exact Up.refl _ | with_reducible refine Up.alloc ?_ _ | with_reducible refine Up.drew ?_ | with_reducible refine Up.drewN ?_ _ | with_reducible refine Up.setCell ?_ (by (try simp) <;> omega) _ | with_reducible assumption | with_reducible refine Up.trans ?_ (by assumption))))).low (HU1.out.size)), ?_, (HU1.out.trans HUP.out).trans (show Up wr _ by have := U4.out; (repeat (first | with_reducible exact Up.refl _ | with_reducible refine Up.alloc ?_ _ | with_reducible refine Up.drew ?_ | with_reducible refine Up.drewN ?_ _ | with_reducible refine Up.setCell ?_ (by (try simp) <;> omega) _ | with_reducible assumption | with_reducible refine Up.trans ?_ (by assumption))))⟩
        · rw [hA', HM1.out]; rfl
        · rw [hA']; exact HY.out
    · obtain rfl : j = N := by omega
      have hA' : actsOf l = ((xs.map RF.bare).map asks, ge) := by
        show actsG (fldsOf l).1 (fldsOf l).2 = _
        rw [← HMP.out, HGE.out, actsG_all]
        have := HOK.out
        rwa [List.take_of_length_le (by rw [List.length_map, HN.out]; exact Nat.le_refl _)] at this
      have HA := Lib.hid hA'
      clear hA'
      go_wp2
      go_ret2
      refine ⟨A1, c1, ys, ?_, HFL.out.low (HU1.out.size), ?_, HU1.out.trans HUP.out⟩
      · rw [HA.out, HM1.out]; rfl
      · rw [HA.out, HY.out, List.take_of_length_le (by rw [List.length_map, HN.out]; exact Nat.le_refl _)]
end Go.Proofs.YtfambgigdhkiaaaDoor
