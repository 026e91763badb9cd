/-
  What space's Copy makes, and Same says. No condition.
  What space's Copy makes; Same of two that are alike. No condition.
  space's Same of two that are alike, and of none. No condition.
-/
import Derived.Test.YtjokcfenncogkaaSp4
import Derived.Test.YtjokcfenncogkaaEqC
namespace Go.Proofs.Ytjokcfenncogkaa
open Go.RowKit
set_option linter.unusedVariables false
set_option linter.unusedSimpArgs false

def flatC (L : List Cl) : List Value := L.flatMap Cl.enc
theorem flatC_len (L : List Cl) : (flatC L).length = L.length * 6 := flatMap_len (k := 6) (enc := Cl.enc) (fun _ => rfl) L
theorem flatC_one (L : List Cl) : ∀ u ∈ flatC L, u.oneCell' = true := by
  intro u hu
  simp only [flatC, List.mem_flatMap] at hu
  obtain ⟨c, _, hu⟩ := hu
  simp only [Cl.enc, List.mem_cons, List.not_mem_nil, or_false] at hu
  rcases hu with rfl | rfl | rfl | rfl | rfl | rfl <;> rfl
theorem CellsAt.reads {w : World} {g : Nat} {L : List Cl} (h : CellsAt w g L) : Reads w w.heap.size 6 (some ⟨g, 0, none⟩) L.length (flatC L) := by
  refine ⟨flatC_len L, fun _ => ⟨g, 0, rfl, h.2.1, fun j u hu => ?_⟩⟩
  rw [Nat.zero_add]
  obtain ⟨c, h1, h2⟩ := flatMap_at (k := 6) (enc := Cl.enc) (fun _ => rfl) (by omega) L j u hu
  have hc := h.2.2 _ c h1
  have hm : j % 6 < 6 := by omega
  have e : j / 6 * 6 + j % 6 = j := by omega
  obtain ⟨c0, c1, c2, c3, c4, c5⟩ := hc
  rw [← e]
  rcases (show j % 6 = 0 ∨ j % 6 = 1 ∨ j % 6 = 2 ∨ j % 6 = 3 ∨ j % 6 = 4 ∨ j % 6 = 5 by omega) with hj | hj | hj | hj | hj | hj <;> rw [hj] at h2 ⊢ <;> simp only [Cl.enc, List.getElem?_cons_zero, List.getElem?_cons_succ, Option.some.injEq] at h2 <;> subst h2 <;> assumption
theorem CellsAt.of_own {w : World} {B n c : Nat} {e : TypeId} {A : Option Addr} {L : List Cl} (h : w.ownsRow B e 6 (.slice A n c) n (flatC L)) (h0 : 0 < L.length) : ∃ g, A = some ⟨g, 0, none⟩ ∧ B ≤ g ∧ CellsAt w g L ∧ n = L.length ∧ n ≤ c ∧ c ≤ maxLen := by
  have hn : n = L.length := by have := h.1; rw [flatC_len] at this; omega
  rcases h.2 with ⟨e1, e2⟩ | ⟨g, cap, cur, e1, e2, e3, e4, e5, e6, e7⟩
  · omega
  · injection e1 with e1 e1' e1''
    subst e1; subst e1''
    refine ⟨g, rfl, e2, ⟨fun o => ?_, (Array.getElem?_eq_some_iff.1 e3).1, fun i d hi => ?_⟩, hn, e4, e5⟩
    · simp only [World.frozen?, e3]
      simp
    · have hc : ∀ j u, d.enc[j]? = some u → w.cell? ⟨g, i * 6 + j, none⟩ = some u := by
        have hr := Reads.of_own h
        intro j u hu
        have := row_at (k := 6) (enc := Cl.enc) (fun _ => rfl) (L := L) hr hi (by omega) j u hu
        rwa [Nat.zero_add] at this
      exact ⟨hc 0 _ rfl, hc 1 _ rfl, hc 2 _ rfl, hc 3 _ rfl, hc 4 _ rfl, hc 5 _ rfl⟩
set_option maxRecDepth 100000 in
set_option maxHeartbeats 1600000 in
theorem clone_is {g cap : Nat} {L : List Cl} {w : World} (h : CellsAt w g L) (h0 : 0 < L.length) (hn : L.length ≤ 65536) :
    Calls Try.prog 116 #[.slice (some ⟨g, 0, none⟩) L.length cap] w fun e w' => ∃ g' c', e = .returned (.slice (some ⟨g', 0, none⟩) L.length c') ∧ w.heap.size ≤ g' ∧ L.length ≤ c' ∧ c' ≤ maxLen ∧ CellsAt w' g' L ∧ Up w w' := by
  obtain ⟨i0, hi, hz0, hz1, hz2⟩ := info_parts (show (Try.prog.info? 25).map (fun i => (i.zero, i.size, i.bytes)) = some (some Cl.zero.val, 6, 6) by kernel_rfl)
  have hr := h.reads
  have HR := Lib.hid hr
  have H0 := Lib.hid h0
  obtain ⟨n, hnn⟩ : ∃ n, L.length = n := ⟨_, rfl⟩
  have HN := Lib.hid hnn
  rw [hnn] at HR hn ⊢
  have hnil := Lib.run_eql_slice_nil (P := Try.prog) w 59 25 (some ⟨g, 0, none⟩) n cap 0 0 Try.underlying59
  clear hr h hnn h0
  go_enter Try.func116, Try.ntmps116
  go_wp2_with (at_builtin; refine wpList_app _ rfl (.tmp 5) (.tmp 6) 59 rfl w.heap.size 25 i0 _ 6 6 Try.underlying59 hi hz0 hz1 hz2 rfl (by decide) _ 0 0 [] rfl (World.ownsRow_lit w #[] 0 (Nat.le_refl _) (by simp [maxLen]) rfl) w.heap.size (some ⟨g, 0, none⟩) n cap (flatC L) rfl (HR.out.alloc (Nat.le_refl _) _) (flatC_one L) (by simp [maxLen]; omega) (by omega) (by simp) ?_; intro A1 c1 w1 hown1 hg1 hle1 hmx1 hbl1; have HO1 := Lib.hid hown1; have HB1 := Lib.hid hbl1; clear hown1 hg1 hbl1)
  go_ret
  have ho := HO1.out
  simp only [Nat.zero_add, List.nil_append] at ho
  obtain ⟨g', rfl, hg', hc', e1, e2, e3⟩ := CellsAt.of_own ho (by have := H0.out; omega)
  exact ⟨g', c1, by simp, hg', e2, e3, hc', ((Up.refl _).alloc _).past HB1.out⟩
end Go.Proofs.Ytjokcfenncogkaa
namespace Go.Proofs.Ytjokcfenncogkaa
open Go.RowKit
set_option linter.unusedVariables false
set_option linter.unusedSimpArgs false

set_option maxHeartbeats 1600000 in
theorem scopy_is {p g : Nat} {X : Spc} {w : World} (h : SAt w p g X) (ok : X.Ok) :
    Calls Try.prog 30 #[.pointer (some ⟨p, 0, none⟩)] w fun e w' => ∃ p' g', e = .returned (.pointer (some ⟨p', 0, none⟩)) ∧ w.heap.size ≤ p' ∧ w.heap.size ≤ g' ∧ SAt w' p' g' X ∧ Up w w' := by
  obtain ⟨hne, zp, hf, k0, k1, k2, k3, ⟨cap, q1, q2, k4⟩, k5, k6, hc⟩ := h
  have HC := Lib.hid hc
  have hb := ok.big
  have hs := ok.small
  have HCL := Lib.hid (fun W (hc : CellsAt W g X.L) => clone_is (cap := cap) (w := W) hc (by omega) (by omega))
  obtain ⟨m, hm⟩ : ∃ m, X.L.length = m := ⟨_, rfl⟩
  have HM := Lib.hid hm
  rw [hm] at HCL k4 q1
  clear hf hm hc ok hb hs
  go_enter Try.func30, Try.ntmps30
  go_wp2_with fail
  refine (HCL.out _ (HC.out.keep (((Up.refl w).alloc _).block g HC.out.2.1))).mono ?_
  rintro e w2 ⟨g', c', rfl, hg', e1, e2, hc2, hu2⟩
  simp at hg'
  have hz := hu2.size
  simp at hz
  obtain ⟨bd, be⟩ := hu2.at_ w.heap.size (by simp)
  have d0 : w2.cell? ⟨w.heap.size, 0, none⟩ = some (.int .i64 X.model) := (bd 0).trans (by simp [go_sem])
  have d1 : w2.cell? ⟨w.heap.size, 1, none⟩ = some (.bool X.alt) := (bd 1).trans (by simp [go_sem])
  have d2 : w2.cell? ⟨w.heap.size, 2, none⟩ = some (.int .i64 X.r) := (bd 2).trans (by simp [go_sem])
  have d3 : w2.cell? ⟨w.heap.size, 3, none⟩ = some (.int .i64 X.c) := (bd 3).trans (by simp [go_sem])
  have d4 : w2.cell? ⟨w.heap.size, 4, none⟩ = some (.slice (some ⟨g, 0, none⟩) m cap) := (bd 4).trans (by simp [go_sem])
  have d5 : w2.cell? ⟨w.heap.size, 5, none⟩ = some (.int .i64 X.cur) := (bd 5).trans (by simp [go_sem])
  have d6 : w2.cell? ⟨w.heap.size, 6, none⟩ = some (.int .i64 (attrsN X.L : Int)) := (bd 6).trans (by simp [go_sem])
  have FR := Lib.hid (show FreeAt w2 w.heap.size from fun o => (be o).trans (by simp [go_sem]))
  have f4 := FR.out 4
  have HU := Lib.hid (show Up w w2 by exact ((Up.refl w).alloc _).trans hu2)
  have HC2 := Lib.hid hc2
  clear bd be hu2 hc2 k0 k1 k2 k3 k4 k5 k6
  go_wp2_with fail
  go_ret
  have o : ∀ n : Nat, n ≠ 4 → (w2.setCell ⟨w.heap.size, 4, none⟩ (.slice (some ⟨g', 0, none⟩) m c')).cell? ⟨w.heap.size, n, none⟩ = w2.cell? ⟨w.heap.size, n, none⟩ := fun n hn => World.cell?_setCell_other _ _ _ _ (ad_ne2 (Ne.symm hn))
  refine ⟨w.heap.size, g', rfl, Nat.le_refl _, by omega, ⟨by omega, by simp [World.setCell]; omega, FR.out.set _ _, (o 0 (by omega)).trans d0, (o 1 (by omega)).trans d1, (o 2 (by omega)).trans d2, (o 3 (by omega)).trans d3, ⟨c', by rw [HM.out]; exact e1, e2, ?_⟩, (o 5 (by omega)).trans d5, (o 6 (by omega)).trans d6, HC2.out.other _ _ (by omega)⟩, HU.out.setCell (Nat.le_refl _) _⟩
  rw [HM.out]
  exact World.cell?_setCell_same (h := d4) ..
theorem scopy_nil {w : World} :
    Calls Try.prog 30 #[.pointer none] w fun e w' => e = .returned (.pointer none) ∧ w = w' := by
  go_enter Try.func30, Try.ntmps30
  go_wp2
  go_ret
  exact ⟨rfl, rfl⟩
set_option maxRecDepth 100000 in
set_option maxHeartbeats 1600000 in
theorem eqcells_is {g g' cap cap' : Nat} {L : List Cl} {w : World} (h : CellsAt w g L) (h' : CellsAt w g' L) (hn : L.length ≤ 65536) (hc : L.length ≤ cap) (hc' : L.length ≤ cap') (hm : cap ≤ maxLen) (hm' : cap' ≤ maxLen) :
    Calls Try.prog 71 #[.slice (some ⟨g, 0, none⟩) L.length cap, .slice (some ⟨g', 0, none⟩) L.length cap'] w fun e w' => e = .returned (.bool true) ∧ Up w w' := by
  have HG := Lib.hid h
  have HG' := Lib.hid h'
  obtain ⟨n, hnn⟩ : ∃ n, L.length = n := ⟨_, rfl⟩
  have HN := Lib.hid hnn
  rw [hnn] at hn hc hc' ⊢
  have zg := h.2.1
  have zg' := h'.2.1
  have hq : (cap : Int) ≤ 9223372036854775807 := by simp [maxLen] at hm; omega
  have hq' : (cap' : Int) ≤ 9223372036854775807 := by simp [maxLen] at hm'; omega
  clear h h' hnn hm hm'
  go_enter Try.func71, Try.ntmps71
  go_wp2
  go_loopw [13] (fun i wr => ∃ j : Nat, j ≤ n ∧ i = .int .i64 (j : Int) ∧ Up w wr) (fun i _ => n - (intOf i).toNat)
  case atStart => exact ⟨0, by omega, rfl, Up.refl _⟩
  case round =>
    obtain ⟨j, hj, rfl, hup⟩ := hrel
    by_cases hlt : j < n
    · obtain ⟨c, hcc⟩ : ∃ c, L[j]? = some c := ⟨_, List.getElem?_eq_getElem (by have := HN.out; omega)⟩
      obtain ⟨x0, x1, x2, x3, x4, x5⟩ := (HG.out.keep (hup.block g zg)).2.2 j c hcc
      obtain ⟨y0, y1, y2, y3, y4, y5⟩ := (HG'.out.keep (hup.block g' zg')).2.2 j c hcc
      have ea := fun W => eqC (c := c) (d := c) (b := true) (by simp) W
      have hz := hup.size
      have zr : g < wr.heap.size := by omega
      have zr' : g' < wr.heap.size := by omega
      have hj1 : (j : Int) < (n : Int) := by omega
      have HUP := Lib.hid hup
      clear hcc hup
      obtain ⟨ch, at_, fa, hi_, co, se⟩ := c
      simp only at x0 x1 x2 x3 x4 x5 y0 y1 y2 y3 y4 y5 ea
      go_wp2
      go_quiet (fail)
      go_wp2
      go_roundw
      case rel => exact ⟨j + 1, by omega, by go_num, HUP.out.drewN _⟩
      case measure => simp [intOf]; omega
    · obtain rfl : j = n := by omega
      have HUP := Lib.hid hup
      clear hup
      go_wp2
      go_ret
      exact ⟨rfl, HUP.out⟩
end Go.Proofs.Ytjokcfenncogkaa
namespace Go.Proofs.Ytjokcfenncogkaa
open Go.RowKit
set_option linter.unusedVariables false
set_option linter.unusedSimpArgs false

theorem CellsAt.up {w w' : World} {g : Nat} {L : List Cl} (h : CellsAt w g L) (hu : Up w w') : CellsAt w' g L := h.keep (hu.block g h.2.1)
set_option maxRecDepth 100000 in
set_option maxHeartbeats 3200000 in
theorem ssame_is {p g p' g' : Nat} {X : Spc} {w : World} (h : SAt w p g X) (h' : SAt w p' g' X) (ok : X.Ok) :
    Calls Try.prog 35 #[.pointer (some ⟨p, 0, none⟩), .pointer (some ⟨p', 0, none⟩)] w fun e w' => e = .returned (.bool true) ∧ Up w w' := by
  have HC := Lib.hid h.cells
  have HC' := Lib.hid h'.cells
  obtain ⟨hne, zp, hf, k0, k1, k2, k3, ⟨cap, q1, q2, k4⟩, k5, k6, hc⟩ := h
  obtain ⟨hne', zp', hf', j0, j1, j2, j3, ⟨cap', q1', q2', j4⟩, j5, j6, hc'⟩ := h'
  have hb := ok.big
  have hs := ok.small
  have HEQ := Lib.hid (fun W (hc : CellsAt W g X.L) (hc' : CellsAt W g' X.L) => eqcells_is (cap := cap) (cap' := cap') (w := W) hc hc' (by omega) q1 q1' q2 q2')
  obtain ⟨m, hm⟩ : ∃ m, X.L.length = m := ⟨_, rfl⟩
  rw [hm] at HEQ k4 j4
  clear hf hf' hm hc hc' ok hb hs q1 q2 q1' q2' k2 k3 j2 j3 k6 j6 hne hne'
  have heq : (X.alt == X.alt) = true := by simp
  have HG := Lib.hid (show g < w.heap.size ∧ g' < w.heap.size from ⟨HC.out.2.1, HC'.out.2.1⟩)
  generalize X.alt = al at *
  go_enter Try.func35, Try.ntmps35
  go_wp2_with fail
  refine wp_region_mix (NS := []) [] rfl (by kernel_rfl) (by kernel_rfl) (by simp) (by simp) ?_
  repeat (first
    | (refine mix_skip rfl rfl ?_; simp only [Act.put, List.setIfInBounds_toArray, List.set_cons_succ, List.set_cons_zero])
    | (refine mix_q rfl rfl rfl (by kernel_rfl) rfl rfl rfl ?_
       apply Exists.intro
       refine ⟨fun Wm => ?_, ?_⟩
       · simp only [fin]
         skip
         intro K hK
         go_wp2_with ((go_at_call 71; (with_reducible refine (HEQ.out _ (HC.out.up (up_upOf _ _)) (HC'.out.up (up_upOf _ _))).mono ?_); rintro e w' ⟨rfl, hux⟩))
         refine hK _ _ ?_ ?_ ?_
         · (repeat (first | with_reducible exact Up.refl _ | with_reducible refine Up.alloc ?_ _ | with_reducible refine Up.drew ?_ | with_reducible refine Up.drewN ?_ _ | with_reducible refine Up.setCell ?_ (by (try simp) <;> omega) _ | with_reducible assumption | with_reducible refine Up.trans ?_ (by assumption)))
         · rfl
         · exact tmps_at rfl
       simp only [Act.put, List.setIfInBounds_toArray, List.set_cons_succ, List.set_cons_zero]))
  refine mix_nil ?_
  intro w1 hb_w1
  simp only [fin]
  have hu_w1 : Up w w1 := by (repeat (first | with_reducible exact Up.refl _ | with_reducible refine Up.alloc ?_ _ | with_reducible refine Up.drew ?_ | with_reducible refine Up.drewN ?_ _ | with_reducible refine Up.setCell ?_ (by (try simp) <;> omega) _ | with_reducible assumption | with_reducible refine Up.trans ?_ (by assumption)))
  have hz_w1 := Up.size hb_w1
  try simp at hz_w1
  go_wp2_with fail
  go_ret
  exact ⟨rfl, by (repeat (first | with_reducible exact Up.refl _ | with_reducible refine Up.alloc ?_ _ | with_reducible refine Up.drew ?_ | with_reducible refine Up.drewN ?_ _ | with_reducible refine Up.setCell ?_ (by (try simp) <;> omega) _ | with_reducible assumption | with_reducible refine Up.trans ?_ (by assumption)))⟩
set_option maxRecDepth 100000 in
theorem ssame_nn {w : World} : Calls Try.prog 35 #[.pointer none, .pointer none] w fun e w' => e = .returned (.bool true) ∧ w = w' := by
  go_enter Try.func35, Try.ntmps35
  go_wp2
  go_ret
  exact ⟨rfl, rfl⟩
theorem eql_nil_ptr (a : Addr) (w : World) : (binOp .eql 27 (.pointer none) (.pointer (some a))).run Try.prog w = .ok (.bool false) w := by
  have h : ∀ d : Nat, (Op.equalIn (d + 1) 27 (.pointer none) (.pointer (some a))).run Try.prog w = .ok false w := fun d => by
    simp [Op.equalIn, run_underlying Try.underlying27]
  simp only [binOp]
  simp [Op.equal, Op.maxDepth, h 9999]
set_option maxRecDepth 100000 in
theorem ssame_ns {p : Nat} {w : World} : Calls Try.prog 35 #[.pointer none, .pointer (some ⟨p, 0, none⟩)] w fun e w' => e = .returned (.bool false) ∧ w = w' := by
  have he := eql_nil_ptr ⟨p, 0, none⟩
  go_enter Try.func35, Try.ntmps35
  go_wp2
  go_ret
  exact ⟨rfl, rfl⟩
set_option maxRecDepth 100000 in
theorem ssame_sn {p : Nat} {w : World} : Calls Try.prog 35 #[.pointer (some ⟨p, 0, none⟩), .pointer none] w fun e w' => e = .returned (.bool false) ∧ w = w' := by
  go_enter Try.func35, Try.ntmps35
  go_wp2
  go_ret
  exact ⟨rfl, rfl⟩
end Go.Proofs.Ytjokcfenncogkaa
