/-
  sfield's names and the reference's. Condition: the table of names lies as the row lists it.
-/
import Derived.Test.YtfambgigdhkiaaaDoorStrTab
import Derived.Test.YtfambgigdhkiaaaDoorBytes
import Derived.Test.YtfambgigdhkiaaaDoorRows
namespace Go.Proofs.YtfambgigdhkiaaaDoor
open Go.ChangeShapes Go.WideShapes Go.ChangeAt Go.RowKit
set_option linter.unusedVariables false
set_option linter.unusedSimpArgs false

section
variable {H : Type} {enc : TypeId × Value → H} {P : Program} {w : World} {base : Nat} {sp : Nat → Bool} {held : Bool}
theorem laid_strs2 {W : World} {name : String} {ls : List (List UInt8)} {x0 : String × DataW Unit} {rest : List (String × DataW Unit)} {g : Nat} {t e : TypeId} {n : Nat}
    (hg : P.globalNamed name = some g) (hty : (P.globals[g]?).map (·.type) = some t) (ht : P.underlying t = some (.array n e)) (he : P.underlying e = some .string) (hce : P.cellsOf e = 1)
    (h : laidMet P (x0 :: (name, .agg (ls.map fun l => .lit (.string l))) :: rest) W) (i : Nat) (l : List UInt8) (hi : ls[i]? = some l) : W.cell? ⟨g, i, none⟩ = some (.string ⟨l.toArray⟩) := by
  obtain ⟨ps, ⟨_, _, _, _, _, q0, _, _, _, _, hrest, _⟩, _⟩ := h
  obtain ⟨g', t', cs, fuel, p, q, hg', ht', hvar, hd, _, _⟩ := hrest
  obtain rfl := Option.some.inj (hg.symm.trans hg')
  obtain rfl := Option.some.inj (hty.symm.trans ht')
  have := cells_of_strs ht he hce hd i l hi
  have h5 := World.var?_cell hg hvar i
  rw [h5]
  simpa using this
end
def kindB : List (List UInt8) := [[], [81, 117, 101, 114, 121], [81, 117, 101, 114, 121, 76, 105, 115, 116], [82, 101, 97, 100], [69, 114, 97, 115, 101], [77, 111, 100, 101], [67, 114, 101, 97, 116, 101], [68, 101, 115, 116, 114, 111, 121], [65, 99, 116, 105, 118, 97, 116, 101], [79, 117, 116, 98, 111, 117, 110, 100]]
def kindT (i : Nat) : ByteArray := ⟨(kindB.getD i []).toArray⟩
/-- the kinds' names as they lie -/
def TabS (w : World) : Prop := 0 < w.heap.size ∧ ∀ i, i < 10 → w.cell? ⟨0, i, none⟩ = some (.string (kindT i))
theorem TabS.up {w w' : World} (h : TabS w) (hu : Up w w') : TabS w' := ⟨by have := h.1; have := hu.size; omega, fun i hi => ((hu.at_ _ h.1).1 i).trans (h.2 i hi)⟩
theorem gTabS : Tryd.prog.globalNamed "vitrine/sfield.names" = some 0 := by kernel_rfl
theorem gTabSType : (Tryd.prog.globals[0]?).map (·.type) = some 82 := by kernel_rfl
theorem cellsStr : Tryd.prog.cellsOf 9 = 1 := by kernel_rfl
theorem kindB_at (i : Nat) (h : i < 10) : kindB[i]? = some (kindB.getD i []) := by
  rw [List.getD, List.getElem?_eq_getElem (show i < kindB.length from h)]; rfl
theorem tabS_row2 {W : World} (h : laidMetH Tryd.prog [("vitrine/write.names", Rows.laid_vitrine_write_names), ("vitrine/sfield.names", Rows.laid_vitrine_sfield_names)] W) : TabS W := by
  have hc : ∀ i : Nat, i < 10 → W.cell? ⟨0, i, none⟩ = some (.string (kindT i)) := fun i hi => by
    have := laid_strs2 (ls := kindB) (rest := []) gTabS gTabSType Tryd.underlying82 Tryd.underlying9 cellsStr h i _ (kindB_at i hi)
    rw [this]
    rfl
  exact ⟨cell_lt (hc 0 (by omega)), hc⟩
/-- the name of a kind -/
def kindN (c : Int) : ByteArray := if c < 1 ∨ 9 < c then ByteArray.empty else kindT c.toNat
set_option maxRecDepth 100000 in
set_option maxHeartbeats 800000 in
theorem sname_is (c : Int) (w : World) (hT : TabS w) : Calls Tryd.prog 28 #[.int .i64 c] w fun e w' => e = .returned (.string (kindN c)) ∧ w = w' := by
  obtain ⟨hz, hT⟩ := hT
  by_cases hin : c < 0 ∨ 9 < c
  · have hn : kindN c = ByteArray.empty := by unfold kindN; rw [if_pos (by omega)]
    rw [hn]
    clear hT hn
    by_cases h0 : c < 0
    · go_enter Tryd.func28, Tryd.ntmps28
      go_wp2
      go_ret
      exact ⟨rfl, rfl⟩
    · have h7 : 10 ≤ c := by omega
      go_enter Tryd.func28, Tryd.ntmps28
      go_wp2
      go_ret
      exact ⟨rfl, rfl⟩
  · obtain ⟨i, rfl⟩ : ∃ i : Nat, c = (i : Int) := ⟨c.toNat, by omega⟩
    have hn : kindN (i : Int) = kindT i := by
      unfold kindN
      by_cases h1 : (i : Int) < 1 ∨ 9 < (i : Int)
      · have : i = 0 := by omega
        subst this
        rw [if_pos h1]; rfl
      · rw [if_neg h1, Int.toNat_natCast]
    rw [hn]
    have hi : i < 10 := by omega
    have hc := hT i hi
    have h0 : ¬ ((i : Int) < 0) := by omega
    have h7 : ¬ (10 ≤ (i : Int)) := by omega
    clear hT hn hin
    generalize kindT i = s at *
    go_enter Tryd.func28, Tryd.ntmps28
    go_wp2
    go_ret
    exact ⟨rfl, rfl⟩
set_option maxRecDepth 100000 in
set_option maxHeartbeats 1600000 in
theorem rname_is (c : Int) (w : World) : Calls Tryd.prog 29 #[.int .i64 c] w fun e w' => e = .returned (.string (kindN c)) ∧ Up w w' := by
  by_cases hin : c < 1 ∨ 9 < c
  · have hn : kindN c = ByteArray.empty := by unfold kindN; rw [if_pos hin]
    rw [hn]
    clear hn
    by_cases h0 : c < 1
    · go_enter Tryd.func29, Tryd.ntmps29
      go_wp2
      go_ret
      exact ⟨rfl, Up.refl w⟩
    · have h7 : 9 < c := by omega
      go_enter Tryd.func29, Tryd.ntmps29
      go_wp2
      go_ret
      exact ⟨rfl, Up.refl w⟩
  · have hn : kindN c = kindT c.toNat := by unfold kindN; rw [if_neg hin]
    rw [hn]
    obtain ⟨i, rfl⟩ : ∃ i : Nat, c = (i : Int) := ⟨c.toNat, by omega⟩
    rw [Int.toNat_natCast]
    clear hn
    have hi : 1 ≤ i ∧ i ≤ 9 := by omega
    clear hin
    obtain rfl | rfl | rfl | rfl | rfl | rfl | rfl | rfl | rfl : i = 1 ∨ i = 2 ∨ i = 3 ∨ i = 4 ∨ i = 5 ∨ i = 6 ∨ i = 7 ∨ i = 8 ∨ i = 9 := by omega
    all_goals
      go_enter Tryd.func29, Tryd.ntmps29
      go_wp2
      go_ret
      exact ⟨rfl, (Up.refl w).alloc _⟩
end Go.Proofs.YtfambgigdhkiaaaDoor
