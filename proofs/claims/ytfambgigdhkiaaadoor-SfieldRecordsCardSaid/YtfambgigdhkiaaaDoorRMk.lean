/-
  The reference's Make: the field of an act, or that there is none. No condition.
-/
import Derived.Test.YtfambgigdhkiaaaDoorRMake
import Derived.Test.YtfambgigdhkiaaaDoorSField
import Derived.Deep.CutBlock
import Derived.Deep.DeepCutAuto
namespace Go.Proofs.YtfambgigdhkiaaaDoor
open Go.RowKit
set_option linter.unusedVariables false
set_option linter.unusedSimpArgs false

/-- once the field is made: the act's box, the result's, the field's -/
structure MkSt (w wx : World) (a : PAct) (A1 : Option Addr) (c1 : Nat) (A2 : Option Addr) (c2 : Nat) (i : Int) (A : Option Addr) (n c : Nat) : Prop where
  up : Up w wx
  sz : w.heap.size + 1 + 1 < wx.heap.size
  a0 : wx.cell? ⟨w.heap.size, 0, none⟩ = some (.int .i64 a.kind)
  a1 : wx.cell? ⟨w.heap.size, 1, none⟩ = some (.int .i64 a.cmd)
  a2 : wx.cell? ⟨w.heap.size, 2, none⟩ = some (.int .i64 a.mode)
  a3 : wx.cell? ⟨w.heap.size, 3, none⟩ = some (.bool a.alt)
  a4 : wx.cell? ⟨w.heap.size, 4, none⟩ = some (.int .u8 a.req)
  a5 : wx.cell? ⟨w.heap.size, 5, none⟩ = some (.slice A1 a.codes.length c1)
  a6 : wx.cell? ⟨w.heap.size, 6, none⟩ = some (.slice A2 a.rec_.length c2)
  r0 : wx.cell? ⟨w.heap.size + 1, 0, none⟩ = some (.int .u8 0)
  r1 : wx.cell? ⟨w.heap.size + 1, 1, none⟩ = some (.slice none 0 0)
  z0 : wx.frozen? ⟨w.heap.size + 1, 0, none⟩ = false
  z1 : wx.frozen? ⟨w.heap.size + 1, 1, none⟩ = false
  f0 : wx.cell? ⟨w.heap.size + 1 + 1, 0, none⟩ = some (.int .u8 i)
  f1 : wx.cell? ⟨w.heap.size + 1 + 1, 1, none⟩ = some (.slice A n c)
set_option maxRecDepth 100000 in
set_option maxHeartbeats 6400000 in
theorem make_in {a : PAct} {A1 A2 : Option Addr} {B1 B2 c1 c2 : Nat} {w : World} (h1 : Sl B1 w A1 a.codes.length c1 a.codes) (h2 : Sl B2 w A2 a.rec_.length c2 a.rec_) (hq : 0 ≤ a.req ∧ a.req ≤ 255) (n1 : a.codes.length ≤ 60000) (n2 : a.rec_.length ≤ 60000) (hk1 : (1 : Int) ≤ a.kind) (hk9 : a.kind ≤ 9) :
    Calls Tryd.prog 27 #[actV a A1 c1 A2 c2] w (FieldRet w (mkTail (dataOf a).1 (dataOf a).2.1 a)) := by
  have HD : ∀ k : Nat, a.kind = (k : Int) → Hid (a.kind = (k : Int)) := fun k h => Lib.hid h
  have HPL := Lib.hid (fun w' (hu : Up w w') => plain_is (h1.up hu) (h2.up hu))
  have H1 := Lib.hid h1
  have H2 := Lib.hid h2
  clear h1 h2
  obtain ⟨i, hi⟩ : ∃ i, (dataOf a).1 = i := ⟨_, rfl⟩
  obtain ⟨dl, hdl⟩ : ∃ dl, (dataOf a).2.1 = dl := ⟨_, rfl⟩
  have HI := Lib.hid hi
  have HDL := Lib.hid hdl
  rw [hi, hdl]
  clear hi hdl
  obtain ⟨R, hR⟩ : ∃ R, mkTail i dl a = R := ⟨_, rfl⟩
  rw [hR]
  have hR' := Lib.hid (show R = _ from hR.symm.trans (by unfold mkTail; rfl))
  clear hR
  unfold actV
  go_enter Tryd.func27, Tryd.ntmps27
  go_upto_block 0 with (fail)
  go_cut [17] from 17 to 71 (fun s19 wx => ∃ A c, MkSt w wx a A1 c1 A2 c2 i A dl.length c ∧ Sl (w.heap.size + 1 + 1 + 1) wx A dl.length c dl)
  case first =>
    cases e1 : (a.kind == 1)
    · cases e2 : (a.kind == 2)
      · cases e3 : (a.kind == 3)
        · cases e4 : (a.kind == 4)
          · cases e5 : (a.kind == 5)
            · cases e6 : (a.kind == 6)
              · cases e7 : (a.kind == 7)
                · cases e8 : (a.kind == 8)
                  · cases e9 : (a.kind == 9)
                    · exfalso
                      simp only [beq_eq_false_iff_ne] at e1 e2 e3 e4 e5 e6 e7 e8 e9
                      omega
                    · have hdat : dataOf a = (64, [0] ++ a.rec_, true) := by unfold dataOf; rw [if_neg (by simpa using e1), if_neg (by simpa using e2), if_neg (by simpa using e3), if_neg (by simpa using e4), if_neg (by simpa using e5), if_neg (by simpa using e6), if_neg (by simpa using e7), if_neg (by simpa using e8), if_pos (by simpa using e9)]
                      have hi1 : i = 64 := by rw [← HI.out, hdat]
                      have hl1 : dl = [0] ++ a.rec_ := by rw [← HDL.out, hdat]
                      subst hi1
                      subst hl1
                      clear hdat
                      obtain ⟨i0, hi, hz0, hz1, hz2⟩ := info_parts info_u8
                      have HB := Lib.hid H2.out.bytes
                      have hn2 : 1 + a.rec_.length ≤ maxLen := by simp [maxLen]; omega
                      go_wp2_with (at_builtin; refine wpList_app _ rfl (.tmp 67) (.tmp 69) 23 rfl (w.heap.size + 1 + 1 + 1) 5 i0 _ 1 1 Tryd.underlying23 hi hz0 hz1 hz2 rfl (by decide) _ 1 1 (bs [0]) rfl (lit1 (((w.alloc (.cells #[.int .i64 a.kind, .int .i64 a.cmd, .int .i64 a.mode, .bool a.alt, .int .u8 a.req, .slice A1 a.codes.length c1, .slice A2 a.rec_.length c2] 26)).alloc (.cells #[.int .u8 0, .slice none 0 0] 43)).alloc (.cells #[.int .u8 0, .slice none 0 0] 43)) _ (w.heap.size + 1 + 1 + 1) (by simp) (w.heap.size + 1 + 1 + 1) (by simp)) _ A2 a.rec_.length c2 (bs a.rec_) rfl ((H2.out.up (by (repeat (first | with_reducible exact Up.refl _ | with_reducible refine Up.alloc ?_ _ | with_reducible refine Up.drew ?_ | with_reducible refine Up.drewN ?_ _ | with_reducible refine Up.setCell ?_ (by (try simp) <;> omega) _ | with_reducible assumption | with_reducible refine Up.trans ?_ (by assumption))))).up ((Up.refl _).alloc _)).rd (one_u8 a.rec_) hn2 (by omega) (by simp) ?_; intro A3 c3 w1 hown1 hg1 hle1 hmx1 hbl1; have HO := Lib.hid hown1; clear hown1; have g0 : ∀ o, _ := fun o => hbl1.cell (p := ⟨w.heap.size, o, none⟩) (show w.heap.size < w.heap.size + 1 + 1 + 1 by omega); have g1 : ∀ o, _ := fun o => hbl1.cell (p := ⟨w.heap.size + 1, o, none⟩) (show w.heap.size + 1 < w.heap.size + 1 + 1 + 1 by omega); have g2 : ∀ o, _ := fun o => hbl1.cell (p := ⟨w.heap.size + 1 + 1, o, none⟩) (show w.heap.size + 1 + 1 < w.heap.size + 1 + 1 + 1 by omega); have k1 : ∀ o, _ := fun o => hbl1.frozen (p := ⟨w.heap.size + 1, o, none⟩) (show w.heap.size + 1 < w.heap.size + 1 + 1 + 1 by omega); have k2 : ∀ o, _ := fun o => hbl1.frozen (p := ⟨w.heap.size + 1 + 1, o, none⟩) (show w.heap.size + 1 + 1 < w.heap.size + 1 + 1 + 1 by omega); have hsz1 := hbl1.size; (try simp at hsz1))
                      go_meet
                      have hU1 : Up w w1 := Up.past (by (repeat (first | with_reducible exact Up.refl _ | with_reducible refine Up.alloc ?_ _ | with_reducible refine Up.drew ?_ | with_reducible refine Up.drewN ?_ _ | with_reducible refine Up.setCell ?_ (by (try simp) <;> omega) _ | with_reducible assumption | with_reducible refine Up.trans ?_ (by assumption)))) (Below.mono hbl1 (by omega))
                      have ho := HO.out
                      rw [← bs_app] at ho
                      have hlen : ([0] ++ a.rec_).length = 1 + a.rec_.length := by simp; omega
                      rw [hlen]
                      refine ⟨A3, c3, ⟨by (repeat (first | with_reducible exact Up.refl _ | with_reducible refine Up.alloc ?_ _ | with_reducible refine Up.drew ?_ | with_reducible refine Up.drewN ?_ _ | with_reducible refine Up.setCell ?_ (by (try simp) <;> omega) _ | with_reducible assumption | with_reducible refine Up.trans ?_ (by assumption))), by (try simp) <;> omega, by go_simp, by go_simp, by go_simp, by go_simp, by go_simp, by go_simp, by go_simp, by go_simp, by go_simp, by go_simp, by go_simp, by go_simp, by go_simp⟩, ?_⟩
                      repeat with_reducible refine Sl.set1 ?_ (by omega) _ _
                      refine Sl.of_own ho hle1 hmx1 (by omega) (BL.app ?_ HB.out)
                      intro x hx; simp only [List.mem_cons, List.mem_nil_iff, or_false] at hx
                      rcases hx with rfl <;> omega
                  · have hdat : dataOf a = (14, [0], true) := by unfold dataOf; rw [if_neg (by simpa using e1), if_neg (by simpa using e2), if_neg (by simpa using e3), if_neg (by simpa using e4), if_neg (by simpa using e5), if_neg (by simpa using e6), if_neg (by simpa using e7), if_pos (by simpa using e8)]
                    have hi1 : i = 14 := by rw [← HI.out, hdat]
                    have hl1 : dl = [0] := by rw [← HDL.out, hdat]
                    subst hi1
                    subst hl1
                    clear hdat
                    go_wp2
                    go_meet
                    exact ⟨some ⟨w.heap.size + 1 + 1 + 1, 0, none⟩, 1, ⟨by (repeat (first | with_reducible exact Up.refl _ | with_reducible refine Up.alloc ?_ _ | with_reducible refine Up.drew ?_ | with_reducible refine Up.drewN ?_ _ | with_reducible refine Up.setCell ?_ (by (try simp) <;> omega) _ | with_reducible assumption | with_reducible refine Up.trans ?_ (by assumption))), by (try simp) <;> omega, by go_simp, by go_simp, by go_simp, by go_simp, by go_simp, by go_simp, by go_simp, by go_simp, by go_simp, by go_simp, by go_simp, by rw [show (14 : Int) = 6 + a.kind from by (have : a.kind = 8 := by simpa using e8); omega]; go_simp, by go_simp⟩, (sl_lit _ [0] (by intro x hx; simp only [List.mem_cons, List.mem_nil_iff, or_false] at hx; rcases hx with rfl <;> omega) (by simp) 1 (w.heap.size + 1 + 1 + 1) (by simp) _ rfl rfl).low (by simp)⟩
                · have hdat : dataOf a = (13, [0], true) := by unfold dataOf; rw [if_neg (by simpa using e1), if_neg (by simpa using e2), if_neg (by simpa using e3), if_neg (by simpa using e4), if_neg (by simpa using e5), if_neg (by simpa using e6), if_pos (by simpa using e7)]
                  have hi1 : i = 13 := by rw [← HI.out, hdat]
                  have hl1 : dl = [0] := by rw [← HDL.out, hdat]
                  subst hi1
                  subst hl1
                  clear hdat
                  go_wp2
                  go_meet
                  exact ⟨some ⟨w.heap.size + 1 + 1 + 1, 0, none⟩, 1, ⟨by (repeat (first | with_reducible exact Up.refl _ | with_reducible refine Up.alloc ?_ _ | with_reducible refine Up.drew ?_ | with_reducible refine Up.drewN ?_ _ | with_reducible refine Up.setCell ?_ (by (try simp) <;> omega) _ | with_reducible assumption | with_reducible refine Up.trans ?_ (by assumption))), by (try simp) <;> omega, by go_simp, by go_simp, by go_simp, by go_simp, by go_simp, by go_simp, by go_simp, by go_simp, by go_simp, by go_simp, by go_simp, by rw [show (13 : Int) = 6 + a.kind from by (have : a.kind = 7 := by simpa using e7); omega]; go_simp, by go_simp⟩, (sl_lit _ [0] (by intro x hx; simp only [List.mem_cons, List.mem_nil_iff, or_false] at hx; rcases hx with rfl <;> omega) (by simp) 1 (w.heap.size + 1 + 1 + 1) (by simp) _ rfl rfl).low (by simp)⟩
              · have hdat : dataOf a = (12, [0], true) := by unfold dataOf; rw [if_neg (by simpa using e1), if_neg (by simpa using e2), if_neg (by simpa using e3), if_neg (by simpa using e4), if_neg (by simpa using e5), if_pos (by simpa using e6)]
                have hi1 : i = 12 := by rw [← HI.out, hdat]
                have hl1 : dl = [0] := by rw [← HDL.out, hdat]
                subst hi1
                subst hl1
                clear hdat
                go_wp2
                go_meet
                exact ⟨some ⟨w.heap.size + 1 + 1 + 1, 0, none⟩, 1, ⟨by (repeat (first | with_reducible exact Up.refl _ | with_reducible refine Up.alloc ?_ _ | with_reducible refine Up.drew ?_ | with_reducible refine Up.drewN ?_ _ | with_reducible refine Up.setCell ?_ (by (try simp) <;> omega) _ | with_reducible assumption | with_reducible refine Up.trans ?_ (by assumption))), by (try simp) <;> omega, by go_simp, by go_simp, by go_simp, by go_simp, by go_simp, by go_simp, by go_simp, by go_simp, by go_simp, by go_simp, by go_simp, by rw [show (12 : Int) = 6 + a.kind from by (have : a.kind = 6 := by simpa using e6); omega]; go_simp, by go_simp⟩, (sl_lit _ [0] (by intro x hx; simp only [List.mem_cons, List.mem_nil_iff, or_false] at hx; rcases hx with rfl <;> omega) (by simp) 1 (w.heap.size + 1 + 1 + 1) (by simp) _ rfl rfl).low (by simp)⟩
            · have hmb : 0 ≤ a.mode % 256 ∧ a.mode % 256 ≤ 255 := by omega
              have hdat : dataOf a = (9, [0, a.mode % 256], true) := by unfold dataOf; rw [if_neg (by simpa using e1), if_neg (by simpa using e2), if_neg (by simpa using e3), if_neg (by simpa using e4), if_pos (by simpa using e5)]
              have hi1 : i = 9 := by rw [← HI.out, hdat]
              have hl1 : dl = [0, a.mode % 256] := by rw [← HDL.out, hdat]
              subst hi1
              subst hl1
              clear hdat
              go_wp2
              go_meet
              exact ⟨some ⟨w.heap.size + 1 + 1 + 1, 0, none⟩, 2, ⟨by (repeat (first | with_reducible exact Up.refl _ | with_reducible refine Up.alloc ?_ _ | with_reducible refine Up.drew ?_ | with_reducible refine Up.drewN ?_ _ | with_reducible refine Up.setCell ?_ (by (try simp) <;> omega) _ | with_reducible assumption | with_reducible refine Up.trans ?_ (by assumption))), by (try simp) <;> omega, by go_simp, by go_simp, by go_simp, by go_simp, by go_simp, by go_simp, by go_simp, by go_simp, by go_simp, by go_simp, by go_simp, by go_simp, by go_simp⟩, (sl_lit _ [0, a.mode % 256] (by intro x hx; simp only [List.mem_cons, List.mem_nil_iff, or_false] at hx; rcases hx with rfl | rfl <;> omega) (by simp) 2 (w.heap.size + 1 + 1 + 1) (by simp) _ rfl rfl).low (by simp)⟩
          · have hdat : dataOf a = (3, [if a.alt then 128 else 0], true) := by unfold dataOf; rw [if_neg (by simpa using e1), if_neg (by simpa using e2), if_neg (by simpa using e3), if_pos (by simpa using e4)]
            have hi1 : i = 3 := by rw [← HI.out, hdat]
            have hl1 : dl = [if a.alt then 128 else 0] := by rw [← HDL.out, hdat]
            subst hi1
            have HL := Lib.hid hl1
            clear hdat hl1
            have h4t : Hid (a.alt = true → dl = [128]) := Lib.hid fun h => by rw [HL.out, h]; rfl
            have h4f : Hid (a.alt = false → dl = [0]) := Lib.hid fun h => by rw [HL.out, h]; rfl
            go_wp2
            all_goals go_meet
            · rename_i hat
              have hl1 := h4t.out hat
              clear h4t h4f HL
              subst hl1
              exact ⟨some ⟨w.heap.size + 1 + 1 + 1, 0, none⟩, 1, ⟨by (repeat (first | with_reducible exact Up.refl _ | with_reducible refine Up.alloc ?_ _ | with_reducible refine Up.drew ?_ | with_reducible refine Up.drewN ?_ _ | with_reducible refine Up.setCell ?_ (by (try simp) <;> omega) _ | with_reducible assumption | with_reducible refine Up.trans ?_ (by assumption))), by (try simp) <;> omega, by go_simp, by go_simp, by go_simp, by go_simp, by go_simp, by go_simp, by go_simp, by go_simp, by go_simp, by go_simp, by go_simp, by go_simp, by go_simp⟩, (sl_lit _ [128] (by intro x hx; simp only [List.mem_cons, List.mem_nil_iff, or_false] at hx; rcases hx with rfl <;> omega) (by simp) 1 (w.heap.size + 1 + 1 + 1) (by simp) _ rfl rfl).low (by simp)⟩
            · rename_i hat
              have hl1 := h4f.out hat
              clear h4t h4f HL
              subst hl1
              exact ⟨some ⟨w.heap.size + 1 + 1 + 1, 0, none⟩, 1, ⟨by (repeat (first | with_reducible exact Up.refl _ | with_reducible refine Up.alloc ?_ _ | with_reducible refine Up.drew ?_ | with_reducible refine Up.drewN ?_ _ | with_reducible refine Up.setCell ?_ (by (try simp) <;> omega) _ | with_reducible assumption | with_reducible refine Up.trans ?_ (by assumption))), by (try simp) <;> omega, by go_simp, by go_simp, by go_simp, by go_simp, by go_simp, by go_simp, by go_simp, by go_simp, by go_simp, by go_simp, by go_simp, by go_simp, by go_simp⟩, (sl_lit _ [0] (by intro x hx; simp only [List.mem_cons, List.mem_nil_iff, or_false] at hx; rcases hx with rfl <;> omega) (by simp) 1 (w.heap.size + 1 + 1 + 1) (by simp) _ rfl rfl).low (by simp)⟩
        · have hbd := byteOf_bd a.cmd
          obtain ⟨y, hy⟩ : ∃ y, byteOf a.cmd = y := ⟨_, rfl⟩
          have hby := ref_byte_is a.cmd
          rw [hy] at hbd hby
          have hdat : dataOf a = (1, [0, byteOf a.cmd], true) := by unfold dataOf; rw [if_neg (by simpa using e1), if_neg (by simpa using e2), if_pos (by simpa using e3)]
          have hi1 : i = 1 := by rw [← HI.out, hdat]
          have hl1 : dl = [0, y] := by rw [← HDL.out, hdat, hy]
          subst hi1
          subst hl1
          clear hdat
          clear hy
          go_wp2_with (go_at_call 41; refine (hby _).mono ?_; rintro e w1 ⟨rfl, rfl⟩)
          go_meet
          exact ⟨some ⟨w.heap.size + 1 + 1 + 1, 0, none⟩, 2, ⟨by (repeat (first | with_reducible exact Up.refl _ | with_reducible refine Up.alloc ?_ _ | with_reducible refine Up.drew ?_ | with_reducible refine Up.drewN ?_ _ | with_reducible refine Up.setCell ?_ (by (try simp) <;> omega) _ | with_reducible assumption | with_reducible refine Up.trans ?_ (by assumption))), by (try simp) <;> omega, by go_simp, by go_simp, by go_simp, by go_simp, by go_simp, by go_simp, by go_simp, by go_simp, by go_simp, by go_simp, by go_simp, by go_simp, by go_simp⟩, (sl_lit _ [0, y] (by intro x hx; simp only [List.mem_cons, List.mem_nil_iff, or_false] at hx; rcases hx with rfl | rfl <;> omega) (by simp) 2 (w.heap.size + 1 + 1 + 1) (by simp) _ rfl rfl).low (by simp)⟩
      · have hdat : dataOf a = (1, [255, 3, a.req] ++ a.codes, true) := by unfold dataOf; rw [if_neg (by simpa using e1), if_pos (by simpa using e2)]
        have hi1 : i = 1 := by rw [← HI.out, hdat]
        have hl1 : dl = [255, 3, a.req] ++ a.codes := by rw [← HDL.out, hdat]
        subst hi1
        subst hl1
        clear hdat
        obtain ⟨i0, hi, hz0, hz1, hz2⟩ := info_parts info_u8
        have HB := Lib.hid H1.out.bytes
        have hn2 : 3 + a.codes.length ≤ maxLen := by simp [maxLen]; omega
        go_wp2_with (at_builtin; refine wpList_app _ rfl (.tmp 27) (.tmp 29) 23 rfl (w.heap.size + 1 + 1 + 1) 5 i0 _ 1 1 Tryd.underlying23 hi hz0 hz1 hz2 rfl (by decide) _ 3 3 (bs [255, 3, a.req]) rfl (lit3 (((w.alloc (.cells #[.int .i64 a.kind, .int .i64 a.cmd, .int .i64 a.mode, .bool a.alt, .int .u8 a.req, .slice A1 a.codes.length c1, .slice A2 a.rec_.length c2] 26)).alloc (.cells #[.int .u8 0, .slice none 0 0] 43)).alloc (.cells #[.int .u8 0, .slice none 0 0] 43)) _ _ _ (w.heap.size + 1 + 1 + 1) (by simp) (w.heap.size + 1 + 1 + 1) (by simp)) _ A1 a.codes.length c1 (bs a.codes) rfl ((H1.out.up (by (repeat (first | with_reducible exact Up.refl _ | with_reducible refine Up.alloc ?_ _ | with_reducible refine Up.drew ?_ | with_reducible refine Up.drewN ?_ _ | with_reducible refine Up.setCell ?_ (by (try simp) <;> omega) _ | with_reducible assumption | with_reducible refine Up.trans ?_ (by assumption))))).up ((Up.refl _).alloc _)).rd (one_u8 a.codes) hn2 (by omega) (by simp) ?_; intro A3 c3 w1 hown1 hg1 hle1 hmx1 hbl1; have HO := Lib.hid hown1; clear hown1; have g0 : ∀ o, _ := fun o => hbl1.cell (p := ⟨w.heap.size, o, none⟩) (show w.heap.size < w.heap.size + 1 + 1 + 1 by omega); have g1 : ∀ o, _ := fun o => hbl1.cell (p := ⟨w.heap.size + 1, o, none⟩) (show w.heap.size + 1 < w.heap.size + 1 + 1 + 1 by omega); have g2 : ∀ o, _ := fun o => hbl1.cell (p := ⟨w.heap.size + 1 + 1, o, none⟩) (show w.heap.size + 1 + 1 < w.heap.size + 1 + 1 + 1 by omega); have k1 : ∀ o, _ := fun o => hbl1.frozen (p := ⟨w.heap.size + 1, o, none⟩) (show w.heap.size + 1 < w.heap.size + 1 + 1 + 1 by omega); have k2 : ∀ o, _ := fun o => hbl1.frozen (p := ⟨w.heap.size + 1 + 1, o, none⟩) (show w.heap.size + 1 + 1 < w.heap.size + 1 + 1 + 1 by omega); have hsz1 := hbl1.size; (try simp at hsz1))
        go_meet
        have hU1 : Up w w1 := Up.past (by (repeat (first | with_reducible exact Up.refl _ | with_reducible refine Up.alloc ?_ _ | with_reducible refine Up.drew ?_ | with_reducible refine Up.drewN ?_ _ | with_reducible refine Up.setCell ?_ (by (try simp) <;> omega) _ | with_reducible assumption | with_reducible refine Up.trans ?_ (by assumption)))) (Below.mono hbl1 (by omega))
        have ho := HO.out
        rw [← bs_app] at ho
        have hlen : ([255, 3, a.req] ++ a.codes).length = 3 + a.codes.length := by simp; omega
        rw [hlen]
        refine ⟨A3, c3, ⟨by (repeat (first | with_reducible exact Up.refl _ | with_reducible refine Up.alloc ?_ _ | with_reducible refine Up.drew ?_ | with_reducible refine Up.drewN ?_ _ | with_reducible refine Up.setCell ?_ (by (try simp) <;> omega) _ | with_reducible assumption | with_reducible refine Up.trans ?_ (by assumption))), by (try simp) <;> omega, by go_simp, by go_simp, by go_simp, by go_simp, by go_simp, by go_simp, by go_simp, by go_simp, by go_simp, by go_simp, by go_simp, by go_simp, by go_simp⟩, ?_⟩
        repeat with_reducible refine Sl.set1 ?_ (by omega) _ _
        refine Sl.of_own ho hle1 hmx1 (by omega) (BL.app ?_ HB.out)
        intro x hx; simp only [List.mem_cons, List.mem_nil_iff, or_false] at hx
        rcases hx with rfl | rfl | rfl <;> omega
    · have hdat : dataOf a = (1, [255, 2], true) := by unfold dataOf; rw [if_pos (by simpa using e1)]
      have hi1 : i = 1 := by rw [← HI.out, hdat]
      have hl1 : dl = [255, 2] := by rw [← HDL.out, hdat]
      subst hi1
      subst hl1
      clear hdat
      go_wp2
      go_meet
      exact ⟨some ⟨w.heap.size + 1 + 1 + 1, 0, none⟩, 2, ⟨by (repeat (first | with_reducible exact Up.refl _ | with_reducible refine Up.alloc ?_ _ | with_reducible refine Up.drew ?_ | with_reducible refine Up.drewN ?_ _ | with_reducible refine Up.setCell ?_ (by (try simp) <;> omega) _ | with_reducible assumption | with_reducible refine Up.trans ?_ (by assumption))), by (try simp) <;> omega, by go_simp, by go_simp, by go_simp, by go_simp, by go_simp, by go_simp, by go_simp, by go_simp, by go_simp, by go_simp, by go_simp, by go_simp, by go_simp⟩, (sl_lit _ [255, 2] (by intro x hx; simp only [List.mem_cons, List.mem_nil_iff, or_false] at hx; rcases hx with rfl | rfl <;> omega) (by simp) 2 (w.heap.size + 1 + 1 + 1) (by simp) _ rfl rfl).low (by simp)⟩
  case rest =>
    obtain ⟨A, c, hm, hs⟩ := hcut
    obtain ⟨up, sz, a0, a1, a2, a3, a4, a5, a6, r0, r1, z0, z1, f0, f1⟩ := hm
    have HS := Lib.hid hs
    have UP := Lib.hid up
    clear hs up HI HDL
    obtain ⟨r, hr⟩ : ∃ r, actOf i dl = r := ⟨_, rfl⟩
    rw [hr] at hR'
    have HRR := Lib.hid hr
    clear hr
    have y00 : w.heap.size < wc.heap.size := by omega
    have y01 : w.heap.size + 1 < wc.heap.size := by omega
    clear HD
    go_wp2_with fail
    refine (rof_is (B := w.heap.size + 1 + 1 + 1) (id := i) HS.out).mono ?_
    rw [HRR.out]
    rintro e w2 ⟨E1, d1, E2, d2, rfl, s4, s5, u2⟩
    obtain ⟨ka, fa⟩ := u2.at_ w.heap.size (by omega)
    obtain ⟨kb, fb⟩ := u2.at_ (w.heap.size + 1) (by omega)
    obtain ⟨kc, fc⟩ := u2.at_ (w.heap.size + 1 + 1) (by omega)
    have hz2 := u2.size
    have y0 : w.heap.size < w2.heap.size := by omega
    have y1 : w.heap.size + 1 < w2.heap.size := by omega
    have y2 : w.heap.size + 1 + 1 < w2.heap.size := by omega
    have S4 := Lib.hid s4
    have S5 := Lib.hid s5
    have UW2 := Lib.hid (UP.out.trans u2)
    have U2 := Lib.hid u2
    clear s4 s5 u2
    unfold actV
    by_cases h2 : r.2 = 0
    · have e2 : (r.2 != 0) = false := by simpa using h2
      cases hs : sameB r.1 (plainOf a)
      · have hRR : R = (0, [], 4) := hR'.out.trans (by rw [hs]; simp)
        have HRF := Lib.hid hRR
        have HSB := Lib.hid hs
        clear h2 hs hRR
        go_wp2
        go_region_with (first | (go_at_call 30; refine (HPL.out _ (Up.drew (UW2.out.alloc _))).mono ?_; rintro e w3 ⟨⟨F1, f1', F2, f2', rfl, s6, s7⟩, u3⟩; obtain ⟨la, ga⟩ := u3.at_ w.heap.size (by (try simp) <;> omega); obtain ⟨lb, gb⟩ := u3.at_ (w.heap.size + 1) (by (try simp) <;> omega); obtain ⟨lc, gc⟩ := u3.at_ (w.heap.size + 1 + 1) (by (try simp) <;> omega); obtain ⟨ld, gd⟩ := u3.at_ w2.heap.size (by simp); have hz3 := u3.size; (try simp at hz3); have x0 : w.heap.size < w3.heap.size := (by omega); have x1 : w.heap.size + 1 < w3.heap.size := (by omega); have x2 : w.heap.size + 1 + 1 < w3.heap.size := (by omega); have x3 : w2.heap.size < w3.heap.size := (by omega); have S6 := Lib.hid s6; have S7 := Lib.hid s7; have U23 := Lib.hid (show Up w2 w3 from (((Up.refl w2).alloc _).drew).trans u3); clear s6 s7 u3; unfold actV) | (go_at_call 22; refine (rsame_is (a := r.1) (b := plainOf a) (S4.out.up U23.out) (S5.out.up U23.out) S6.out S7.out).mono ?_; rintro e w4 ⟨rfl, u4⟩; rw [HSB.out]; obtain ⟨ma, oa⟩ := u4.at_ w.heap.size (by (try simp) <;> omega); obtain ⟨mb, ob⟩ := u4.at_ (w.heap.size + 1) (by (try simp) <;> omega); obtain ⟨mc, oc⟩ := u4.at_ (w.heap.size + 1 + 1) (by (try simp) <;> omega); have hz4 := u4.size; (try simp at hz4); have v0 : w.heap.size < w4.heap.size := (by omega); have v1 : w.heap.size + 1 < w4.heap.size := (by omega); have v2 : w.heap.size + 1 + 1 < w4.heap.size := (by omega); have U34 := Lib.hid u4; clear u4))
        all_goals
          go_wp2
          rw [HRF.out]
          exact bodyPost_ret (v := .tuple #[.agg #[.int .u8 0, .slice none 0 0], .int .i64 4]) (by simp [results, Tryd.results27, go_sem, ka, kb, kc, y0, y1, y2, r0, r1, z0, z1, f0, f1, la, lb, lc, x1, x2, ma, mb, mc, v1, v2]) rfl ⟨none, 0, rfl, Sl.none_, by have hU := UW2.out.trans (U23.out.trans U34.out); (repeat (first | with_reducible exact Up.refl _ | with_reducible refine Up.alloc ?_ _ | with_reducible refine Up.drew ?_ | with_reducible refine Up.drewN ?_ _ | with_reducible refine Up.setCell ?_ (by (try simp) <;> omega) _ | with_reducible assumption | with_reducible refine Up.trans ?_ (by assumption)))⟩
      · have hRR : R = (i, dl, 0) := hR'.out.trans (by rw [hs]; simp [h2])
        have HRF := Lib.hid hRR
        have HSB := Lib.hid hs
        clear h2 hs hRR
        go_wp2
        go_region_with (first | (go_at_call 30; refine (HPL.out _ (Up.drew (UW2.out.alloc _))).mono ?_; rintro e w3 ⟨⟨F1, f1', F2, f2', rfl, s6, s7⟩, u3⟩; obtain ⟨la, ga⟩ := u3.at_ w.heap.size (by (try simp) <;> omega); obtain ⟨lb, gb⟩ := u3.at_ (w.heap.size + 1) (by (try simp) <;> omega); obtain ⟨lc, gc⟩ := u3.at_ (w.heap.size + 1 + 1) (by (try simp) <;> omega); obtain ⟨ld, gd⟩ := u3.at_ w2.heap.size (by simp); have hz3 := u3.size; (try simp at hz3); have x0 : w.heap.size < w3.heap.size := (by omega); have x1 : w.heap.size + 1 < w3.heap.size := (by omega); have x2 : w.heap.size + 1 + 1 < w3.heap.size := (by omega); have x3 : w2.heap.size < w3.heap.size := (by omega); have S6 := Lib.hid s6; have S7 := Lib.hid s7; have U23 := Lib.hid (show Up w2 w3 from (((Up.refl w2).alloc _).drew).trans u3); clear s6 s7 u3; unfold actV) | (go_at_call 22; refine (rsame_is (a := r.1) (b := plainOf a) (S4.out.up U23.out) (S5.out.up U23.out) S6.out S7.out).mono ?_; rintro e w4 ⟨rfl, u4⟩; rw [HSB.out]; obtain ⟨ma, oa⟩ := u4.at_ w.heap.size (by (try simp) <;> omega); obtain ⟨mb, ob⟩ := u4.at_ (w.heap.size + 1) (by (try simp) <;> omega); obtain ⟨mc, oc⟩ := u4.at_ (w.heap.size + 1 + 1) (by (try simp) <;> omega); have hz4 := u4.size; (try simp at hz4); have v0 : w.heap.size < w4.heap.size := (by omega); have v1 : w.heap.size + 1 < w4.heap.size := (by omega); have v2 : w.heap.size + 1 + 1 < w4.heap.size := (by omega); have U34 := Lib.hid u4; clear u4))
        all_goals
          go_wp2
          rw [HRF.out]
          refine bodyPost_ret (v := .tuple #[.agg #[.int .u8 i, .slice A dl.length c], .int .i64 0]) (by simp [results, Tryd.results27, go_sem, ka, kb, kc, y0, y1, y2, r0, r1, z0, z1, f0, f1, la, lb, lc, x1, x2, ma, mb, mc, v1, v2]) rfl ⟨A, c, rfl, ?_, by have hU := UW2.out.trans (U23.out.trans U34.out); (repeat (first | with_reducible exact Up.refl _ | with_reducible refine Up.alloc ?_ _ | with_reducible refine Up.drew ?_ | with_reducible refine Up.drewN ?_ _ | with_reducible refine Up.setCell ?_ (by (try simp) <;> omega) _ | with_reducible assumption | with_reducible refine Up.trans ?_ (by assumption)))⟩
          refine Sl.low (B := w.heap.size + 1 + 1 + 1) ?_ (by omega)
          repeat with_reducible refine Sl.set1 ?_ (by omega) _ _
          exact ((HS.out.up U2.out).up U23.out).up U34.out
    · have e2 : (r.2 != 0) = true := by simpa using h2
      have hRR : R = (0, [], 4) := hR'.out.trans (by simp [h2])
      have HRF := Lib.hid hRR
      clear h2 hRR
      go_wp2
      go_quiet (fail)
      go_wp2
      rw [HRF.out]
      exact bodyPost_ret (v := .tuple #[.agg #[.int .u8 0, .slice none 0 0], .int .i64 4]) (by simp [results, Tryd.results27, go_sem, ka, kb, kc, y0, y1, y2, r0, r1, z0, z1, f0, f1]) rfl ⟨none, 0, rfl, Sl.none_, by have hU := UW2.out; (repeat (first | with_reducible exact Up.refl _ | with_reducible refine Up.alloc ?_ _ | with_reducible refine Up.drew ?_ | with_reducible refine Up.drewN ?_ _ | with_reducible refine Up.setCell ?_ (by (try simp) <;> omega) _ | with_reducible assumption | with_reducible refine Up.trans ?_ (by assumption)))⟩
end Go.Proofs.YtfambgigdhkiaaaDoor
