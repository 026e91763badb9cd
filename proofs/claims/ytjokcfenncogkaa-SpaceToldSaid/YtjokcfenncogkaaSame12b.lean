/-
  space's Same of two that are alike, and of none. No condition.
-/
import Derived.Test.YtjokcfenncogkaaSame12
namespace Go.Proofs.Ytjokcfenncogkaa
open Go.RowKit
set_option linter.unusedVariables false
set_option linter.unusedSimpArgs false

theorem CellsAt.up {w w' : World} {g : Nat} {L : List Cl} (h : CellsAt w g L) (hu : Up w w') : CellsAt w' g L := h.keep (hu.block g h.2.1)
set_option maxRecDepth 100000 in
set_option maxHeartbeats 3200000 in
theorem ssame_is {p g p' g' : Nat} {X : Spc} {w : World} (h : SAt w p g X) (h' : SAt w p' g' X) (ok : X.Ok) :
    Calls Try.prog 35 #[.pointer (some ⟨p, 0, none⟩), .pointer (some ⟨p', 0, none⟩)] w fun e w' => e = .returned (.bool true) ∧ Up w w' := by
  have HC := Lib.hid h.cells
  have HC' := Lib.hid h'.cells
  obtain ⟨hne, zp, hf, k0, k1, k2, k3, ⟨cap, q1, q2, k4⟩, k5, k6, hc⟩ := h
  obtain ⟨hne', zp', hf', j0, j1, j2, j3, ⟨cap', q1', q2', j4⟩, j5, j6, hc'⟩ := h'
  have hb := ok.big
  have hs := ok.small
  have HEQ := Lib.hid (fun W (hc : CellsAt W g X.L) (hc' : CellsAt W g' X.L) => eqcells_is (cap := cap) (cap' := cap') (w := W) hc hc' (by omega) q1 q1' q2 q2')
  obtain ⟨m, hm⟩ : ∃ m, X.L.length = m := ⟨_, rfl⟩
  rw [hm] at HEQ k4 j4
  clear hf hf' hm hc hc' ok hb hs q1 q2 q1' q2' k2 k3 j2 j3 k6 j6 hne hne'
  have heq : (X.alt == X.alt) = true := by simp
  have HG := Lib.hid (show g < w.heap.size ∧ g' < w.heap.size from ⟨HC.out.2.1, HC'.out.2.1⟩)
  generalize X.alt = al at *
  go_enter Try.func35, Try.ntmps35
  go_wp2_with fail
  refine wp_region_mix (NS := []) [] rfl (by kernel_rfl) (by kernel_rfl) (by simp) (by simp) ?_
  repeat (first
    | (refine mix_skip rfl rfl ?_; simp only [Act.put, List.setIfInBounds_toArray, List.set_cons_succ, List.set_cons_zero])
    | (refine mix_q rfl rfl rfl (by kernel_rfl) rfl rfl rfl ?_
       apply Exists.intro
       refine ⟨fun Wm => ?_, ?_⟩
       · simp only [fin]
         skip
         intro K hK
         go_wp2_with ((go_at_call 71; (with_reducible refine (HEQ.out _ (HC.out.up (up_upOf _ _)) (HC'.out.up (up_upOf _ _))).mono ?_); rintro e w' ⟨rfl, hux⟩))
         refine hK _ _ ?_ ?_ ?_
         · (repeat (first | with_reducible exact Up.refl _ | with_reducible refine Up.alloc ?_ _ | with_reducible refine Up.drew ?_ | with_reducible refine Up.drewN ?_ _ | with_reducible refine Up.setCell ?_ (by (try simp) <;> omega) _ | with_reducible assumption | with_reducible refine Up.trans ?_ (by assumption)))
         · rfl
         · exact tmps_at rfl
       simp only [Act.put, List.setIfInBounds_toArray, List.set_cons_succ, List.set_cons_zero]))
  refine mix_nil ?_
  intro w1 hb_w1
  simp only [fin]
  have hu_w1 : Up w w1 := by (repeat (first | with_reducible exact Up.refl _ | with_reducible refine Up.alloc ?_ _ | with_reducible refine Up.drew ?_ | with_reducible refine Up.drewN ?_ _ | with_reducible refine Up.setCell ?_ (by (try simp) <;> omega) _ | with_reducible assumption | with_reducible refine Up.trans ?_ (by assumption)))
  have hz_w1 := Up.size hb_w1
  try simp at hz_w1
  go_wp2_with fail
  go_ret
  exact ⟨rfl, by (repeat (first | with_reducible exact Up.refl _ | with_reducible refine Up.alloc ?_ _ | with_reducible refine Up.drew ?_ | with_reducible refine Up.drewN ?_ _ | with_reducible refine Up.setCell ?_ (by (try simp) <;> omega) _ | with_reducible assumption | with_reducible refine Up.trans ?_ (by assumption)))⟩
set_option maxRecDepth 100000 in
theorem ssame_nn {w : World} : Calls Try.prog 35 #[.pointer none, .pointer none] w fun e w' => e = .returned (.bool true) ∧ w = w' := by
  go_enter Try.func35, Try.ntmps35
  go_wp2
  go_ret
  exact ⟨rfl, rfl⟩
theorem eql_nil_ptr (a : Addr) (w : World) : (binOp .eql 27 (.pointer none) (.pointer (some a))).run Try.prog w = .ok (.bool false) w := by
  have h : ∀ d : Nat, (Op.equalIn (d + 1) 27 (.pointer none) (.pointer (some a))).run Try.prog w = .ok false w := fun d => by
    simp [Op.equalIn, run_underlying Try.underlying27]
  simp only [binOp]
  simp [Op.equal, Op.maxDepth, h 9999]
set_option maxRecDepth 100000 in
theorem ssame_ns {p : Nat} {w : World} : Calls Try.prog 35 #[.pointer none, .pointer (some ⟨p, 0, none⟩)] w fun e w' => e = .returned (.bool false) ∧ w = w' := by
  have he := eql_nil_ptr ⟨p, 0, none⟩
  go_enter Try.func35, Try.ntmps35
  go_wp2
  go_ret
  exact ⟨rfl, rfl⟩
set_option maxRecDepth 100000 in
theorem ssame_sn {p : Nat} {w : World} : Calls Try.prog 35 #[.pointer (some ⟨p, 0, none⟩), .pointer none] w fun e w' => e = .returned (.bool false) ∧ w = w' := by
  go_enter Try.func35, Try.ntmps35
  go_wp2
  go_ret
  exact ⟨rfl, rfl⟩
end Go.Proofs.Ytjokcfenncogkaa
