/-
  What space's Copy makes; Same of two that are alike. No condition.
-/
import Derived.Test.YtjokcfenncogkaaCopy
namespace Go.Proofs.Ytjokcfenncogkaa
open Go.RowKit
set_option linter.unusedVariables false
set_option linter.unusedSimpArgs false

set_option maxHeartbeats 1600000 in
theorem scopy_is {p g : Nat} {X : Spc} {w : World} (h : SAt w p g X) (ok : X.Ok) :
    Calls Try.prog 30 #[.pointer (some ⟨p, 0, none⟩)] w fun e w' => ∃ p' g', e = .returned (.pointer (some ⟨p', 0, none⟩)) ∧ w.heap.size ≤ p' ∧ w.heap.size ≤ g' ∧ SAt w' p' g' X ∧ Up w w' := by
  obtain ⟨hne, zp, hf, k0, k1, k2, k3, ⟨cap, q1, q2, k4⟩, k5, k6, hc⟩ := h
  have HC := Lib.hid hc
  have hb := ok.big
  have hs := ok.small
  have HCL := Lib.hid (fun W (hc : CellsAt W g X.L) => clone_is (cap := cap) (w := W) hc (by omega) (by omega))
  obtain ⟨m, hm⟩ : ∃ m, X.L.length = m := ⟨_, rfl⟩
  have HM := Lib.hid hm
  rw [hm] at HCL k4 q1
  clear hf hm hc ok hb hs
  go_enter Try.func30, Try.ntmps30
  go_wp2_with fail
  refine (HCL.out _ (HC.out.keep (((Up.refl w).alloc _).block g HC.out.2.1))).mono ?_
  rintro e w2 ⟨g', c', rfl, hg', e1, e2, hc2, hu2⟩
  simp at hg'
  have hz := hu2.size
  simp at hz
  obtain ⟨bd, be⟩ := hu2.at_ w.heap.size (by simp)
  have d0 : w2.cell? ⟨w.heap.size, 0, none⟩ = some (.int .i64 X.model) := (bd 0).trans (by simp [go_sem])
  have d1 : w2.cell? ⟨w.heap.size, 1, none⟩ = some (.bool X.alt) := (bd 1).trans (by simp [go_sem])
  have d2 : w2.cell? ⟨w.heap.size, 2, none⟩ = some (.int .i64 X.r) := (bd 2).trans (by simp [go_sem])
  have d3 : w2.cell? ⟨w.heap.size, 3, none⟩ = some (.int .i64 X.c) := (bd 3).trans (by simp [go_sem])
  have d4 : w2.cell? ⟨w.heap.size, 4, none⟩ = some (.slice (some ⟨g, 0, none⟩) m cap) := (bd 4).trans (by simp [go_sem])
  have d5 : w2.cell? ⟨w.heap.size, 5, none⟩ = some (.int .i64 X.cur) := (bd 5).trans (by simp [go_sem])
  have d6 : w2.cell? ⟨w.heap.size, 6, none⟩ = some (.int .i64 (attrsN X.L : Int)) := (bd 6).trans (by simp [go_sem])
  have FR := Lib.hid (show FreeAt w2 w.heap.size from fun o => (be o).trans (by simp [go_sem]))
  have f4 := FR.out 4
  have HU := Lib.hid (show Up w w2 by exact ((Up.refl w).alloc _).trans hu2)
  have HC2 := Lib.hid hc2
  clear bd be hu2 hc2 k0 k1 k2 k3 k4 k5 k6
  go_wp2_with fail
  go_ret
  have o : ∀ n : Nat, n ≠ 4 → (w2.setCell ⟨w.heap.size, 4, none⟩ (.slice (some ⟨g', 0, none⟩) m c')).cell? ⟨w.heap.size, n, none⟩ = w2.cell? ⟨w.heap.size, n, none⟩ := fun n hn => World.cell?_setCell_other _ _ _ _ (ad_ne2 (Ne.symm hn))
  refine ⟨w.heap.size, g', rfl, Nat.le_refl _, by omega, ⟨by omega, by simp [World.setCell]; omega, FR.out.set _ _, (o 0 (by omega)).trans d0, (o 1 (by omega)).trans d1, (o 2 (by omega)).trans d2, (o 3 (by omega)).trans d3, ⟨c', by rw [HM.out]; exact e1, e2, ?_⟩, (o 5 (by omega)).trans d5, (o 6 (by omega)).trans d6, HC2.out.other _ _ (by omega)⟩, HU.out.setCell (Nat.le_refl _) _⟩
  rw [HM.out]
  exact World.cell?_setCell_same (h := d4) ..
theorem scopy_nil {w : World} :
    Calls Try.prog 30 #[.pointer none] w fun e w' => e = .returned (.pointer none) ∧ w = w' := by
  go_enter Try.func30, Try.ntmps30
  go_wp2
  go_ret
  exact ⟨rfl, rfl⟩
set_option maxRecDepth 100000 in
set_option maxHeartbeats 1600000 in
theorem eqcells_is {g g' cap cap' : Nat} {L : List Cl} {w : World} (h : CellsAt w g L) (h' : CellsAt w g' L) (hn : L.length ≤ 65536) (hc : L.length ≤ cap) (hc' : L.length ≤ cap') (hm : cap ≤ maxLen) (hm' : cap' ≤ maxLen) :
    Calls Try.prog 71 #[.slice (some ⟨g, 0, none⟩) L.length cap, .slice (some ⟨g', 0, none⟩) L.length cap'] w fun e w' => e = .returned (.bool true) ∧ Up w w' := by
  have HG := Lib.hid h
  have HG' := Lib.hid h'
  obtain ⟨n, hnn⟩ : ∃ n, L.length = n := ⟨_, rfl⟩
  have HN := Lib.hid hnn
  rw [hnn] at hn hc hc' ⊢
  have zg := h.2.1
  have zg' := h'.2.1
  have hq : (cap : Int) ≤ 9223372036854775807 := by simp [maxLen] at hm; omega
  have hq' : (cap' : Int) ≤ 9223372036854775807 := by simp [maxLen] at hm'; omega
  clear h h' hnn hm hm'
  go_enter Try.func71, Try.ntmps71
  go_wp2
  go_loopw [13] (fun i wr => ∃ j : Nat, j ≤ n ∧ i = .int .i64 (j : Int) ∧ Up w wr) (fun i _ => n - (intOf i).toNat)
  case atStart => exact ⟨0, by omega, rfl, Up.refl _⟩
  case round =>
    obtain ⟨j, hj, rfl, hup⟩ := hrel
    by_cases hlt : j < n
    · obtain ⟨c, hcc⟩ : ∃ c, L[j]? = some c := ⟨_, List.getElem?_eq_getElem (by have := HN.out; omega)⟩
      obtain ⟨x0, x1, x2, x3, x4, x5⟩ := (HG.out.keep (hup.block g zg)).2.2 j c hcc
      obtain ⟨y0, y1, y2, y3, y4, y5⟩ := (HG'.out.keep (hup.block g' zg')).2.2 j c hcc
      have ea := fun W => eqC (c := c) (d := c) (b := true) (by simp) W
      have hz := hup.size
      have zr : g < wr.heap.size := by omega
      have zr' : g' < wr.heap.size := by omega
      have hj1 : (j : Int) < (n : Int) := by omega
      have HUP := Lib.hid hup
      clear hcc hup
      obtain ⟨ch, at_, fa, hi_, co, se⟩ := c
      simp only at x0 x1 x2 x3 x4 x5 y0 y1 y2 y3 y4 y5 ea
      go_wp2
      go_quiet (fail)
      go_wp2
      go_roundw
      case rel => exact ⟨j + 1, by omega, by go_num, HUP.out.drewN _⟩
      case measure => simp [intOf]; omega
    · obtain rfl : j = n := by omega
      have HUP := Lib.hid hup
      clear hup
      go_wp2
      go_ret
      exact ⟨rfl, HUP.out⟩
end Go.Proofs.Ytjokcfenncogkaa
