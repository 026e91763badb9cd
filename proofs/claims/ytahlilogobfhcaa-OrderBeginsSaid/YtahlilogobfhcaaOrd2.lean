/-
  order's scanner: take when there is too little, Is, addr. No condition but the slice's own reach.
-/
import Derived.Test.YtahlilogobfhcaaOrd1
import Derived.Test.YtahlilogobfhcaaNm16
import Derived.Laws.MakeOwn
namespace Go.Proofs.Ytahlilogobfhcaa
open Go.RowKit
set_option linter.unusedVariables false
set_option linter.unusedSimpArgs false

theorem errs_ne {e x : Int} (h : e ≠ 0 ∨ x ≠ 0) : errs e x ≠ 0 := by unfold errs; split <;> omega
theorem run_bytes (m : Nat) (hm : m ≤ 65536) : ∃ O : Obj, (∀ w : World, (Instr.makeSlice 26 (.int .i64 (m : Int)) (.int .i64 (m : Int))).run Try.prog w = .ok (.slice (some ⟨w.heap.size, 0, none⟩) m m) (w.alloc O)) ∧ ∀ w : World, ∀ i, i < m → (w.alloc O).cell? ⟨w.heap.size, i, none⟩ = some (.int .u8 0) := by
  obtain ⟨i0, hi, hz0, hz1, hz2⟩ := info_parts info_u8
  refine ⟨.cells (madeCells (Value.int .u8 0).cells (m * i0.size)) 5, fun w => ?_, fun w i hlt => ?_⟩
  · have := run_make (P := Try.prog) w 26 5 i0 _ Try.underlying26 hi hz0 .i64 .i64 (m : Int) (m : Int) (by omega) (by omega) (by rw [hz2]; omega) (by omega)
    simpa using this
  · rw [hz1]
    rw [World.cell?_alloc_new]
    have hb : i < m * 1 := by omega
    show (madeCells #[.int .u8 0] (m * 1))[i]? = _
    simp only [madeCells, Array.getElem?_map]
    rw [show (Array.range (m * 1))[i]? = some i from by rw [Array.getElem?_range, if_pos hb]]
    simp [Nat.mod_one]
set_option maxHeartbeats 800000 in
theorem take_no {w : World} {b : Nat} {A : Option Addr} {n c : Nat} {l : List Int} {e0 : Int} {k : Nat} (h : Sc w b A n c l e0) (hk : n < k) (hs : k ≤ 255) :
    Calls Try.prog 18 #[.pointer (some ⟨b, 0, none⟩), .int .i64 (k : Int)] w fun e w' => ∃ g, e = .returned (.slice (some ⟨g, 0, none⟩) k k) ∧ g < w'.heap.size ∧ g ≠ b ∧ (∀ i, i < k → w'.cell? ⟨g, i, none⟩ = some (.int .u8 0)) ∧ Sc w' b none 0 0 [] (errs e0 2) ∧ Near b w w' := by
  have HS := Lib.hid h
  have HF := Lib.hid (sfail_is 2 h)
  obtain ⟨O, HO1, HO2⟩ := run_bytes k (by omega)
  have HOC := Lib.hid HO2
  have hcap := h.sl.cap
  have hmx := h.sl.mx
  obtain ⟨_, _, c0, _, f0, _⟩ := h
  have zb := cell_lt c0
  simp only at zb
  clear HO2
  go_enter Try.func18, Try.ntmps18
  go_wp2_with fail
  refine HF.out.mono ?_
  rintro e w1 ⟨rfl, hs1, hk1⟩
  have HN := Lib.hid (hs1.setP Sl.none_ (fun p hp => by cases hp))
  have HK := Lib.hid hk1
  obtain ⟨_, _, d0, _, g0, _⟩ := hs1
  have zb1 := cell_lt d0
  simp only at zb1
  clear hk1 c0 f0
  go_wp2_with fail
  go_ret
  exact ⟨_, rfl, by simp, by simp; omega, by simpa using HOC.out (w1.setCell ⟨b, 0, none⟩ (.slice none 0 0)), HN.out.up ((Up.refl _).alloc _), (HK.out.trans (near_set _ _ _ _)).up ((Up.refl _).alloc _)⟩
end Go.Proofs.Ytahlilogobfhcaa
