/-
  The classes' names; the walk of ClassOf. No condition but the table of names as it lies.
-/
import Derived.Test.YthdoighlfoinaaaDoorCls6
import Derived.Test.YthdoighlfoinaaaDoorStrTab
namespace Go.Proofs.YthdoighlfoinaaaDoor
open Go.RowKit Go.Maps
set_option linter.unusedVariables false
set_option linter.unusedSimpArgs false

def clsB : List (List UInt8) := [[110, 117, 108, 108], [102, 111, 114, 109, 97, 116], [111, 110, 101, 115], [99, 111, 110, 116, 114, 111, 108], [98, 108, 97, 110, 107], [100, 105, 103, 105, 116], [108, 101, 116, 116, 101, 114], [109, 97, 114, 107]]
def clsT (i : Nat) : ByteArray := ⟨(clsB.getD i []).toArray⟩
/-- the classes' names as they lie -/
def TabC (w : World) : Prop := 0 < w.heap.size ∧ ∀ i, i < 8 → w.cell? ⟨0, i, none⟩ = some (.string (clsT i))
theorem TabC.up {w w' : World} (h : TabC w) (hu : Up w w') : TabC w' := ⟨by have := h.1; have := hu.size; omega, fun i hi => ((hu.at_ _ h.1).1 i).trans (h.2 i hi)⟩
theorem gTabC : Tryd.prog.globalNamed "vitrine/class.names" = some 0 := by kernel_rfl
theorem gTabCType : (Tryd.prog.globals[0]?).map (·.type) = some 49 := by kernel_rfl
theorem cellsStr : Tryd.prog.cellsOf 9 = 1 := by kernel_rfl
theorem clsB_at (i : Nat) (h : i < 8) : clsB[i]? = some (clsB.getD i []) := by
  rw [List.getD, List.getElem?_eq_getElem (show i < clsB.length from h)]; rfl
theorem tabC_of {W : World} (h : laidMetH Tryd.prog [("vitrine/class.names", Rows.laid_vitrine_class_names)] W) : TabC W := by
  have hc : ∀ i : Nat, i < 8 → W.cell? ⟨0, i, none⟩ = some (.string (clsT i)) := fun i hi => by
    have := laid_strs (ls := clsB) (rest := []) gTabC gTabCType Tryd.underlying49 Tryd.underlying9 cellsStr h i _ (clsB_at i hi)
    rw [this]
    rfl
  exact ⟨cell_lt (hc 0 (by omega)), hc⟩
/-- the name of a class -/
def clsName (c : Int) : ByteArray := if c < 0 ∨ 7 < c then ByteArray.empty else clsT c.toNat
set_option maxRecDepth 100000 in
set_option maxHeartbeats 800000 in
theorem name_is (c : Int) (w : World) (hT : TabC w) : Calls Tryd.prog 9 #[.int .i64 c] w fun e w' => e = .returned (.string (clsName c)) ∧ w = w' := by
  obtain ⟨hz, hT⟩ := hT
  by_cases hin : c < 0 ∨ 7 < c
  · have hn : clsName c = ByteArray.empty := by unfold clsName; rw [if_pos hin]
    rw [hn]
    clear hT hn
    by_cases h0 : c < 0
    · go_enter Tryd.func9, Tryd.ntmps9
      go_wp2
      go_ret
      exact ⟨rfl, rfl⟩
    · have h7 : 7 < c := by omega
      go_enter Tryd.func9, Tryd.ntmps9
      go_wp2
      go_ret
      exact ⟨rfl, rfl⟩
  · have hn : clsName c = clsT c.toNat := by unfold clsName; rw [if_neg hin]
    rw [hn]
    obtain ⟨i, rfl⟩ : ∃ i : Nat, c = (i : Int) := ⟨c.toNat, by omega⟩
    rw [Int.toNat_natCast]
    have hi : i < 8 := by omega
    have hc := hT i hi
    have h0 : ¬ ((i : Int) < 0) := by omega
    have h7 : ¬ (7 < (i : Int)) := by omega
    clear hT hn hin
    generalize clsT i = s at *
    go_enter Tryd.func9, Tryd.ntmps9
    go_wp2
    go_ret
    exact ⟨rfl, rfl⟩
set_option maxRecDepth 100000 in
set_option maxHeartbeats 800000 in
theorem rname_is (c : Int) (w : World) : Calls Tryd.prog 10 #[.int .i64 c] w fun e w' => e = .returned (.string (clsName c)) ∧ Up w w' := by
  by_cases hin : c < 0 ∨ 7 < c
  · have hn : clsName c = ByteArray.empty := by unfold clsName; rw [if_pos hin]
    rw [hn]
    clear hn
    by_cases h0 : c < 0
    · go_enter Tryd.func10, Tryd.ntmps10
      go_wp2
      go_ret
      exact ⟨rfl, (Up.refl w).alloc _⟩
    · have h7 : 7 < c := by omega
      go_enter Tryd.func10, Tryd.ntmps10
      go_wp2
      go_ret
      exact ⟨rfl, (Up.refl w).alloc _⟩
  · have hn : clsName c = clsT c.toNat := by unfold clsName; rw [if_neg hin]
    rw [hn]
    obtain ⟨i, rfl⟩ : ∃ i : Nat, c = (i : Int) := ⟨c.toNat, by omega⟩
    rw [Int.toNat_natCast]
    have hi : i < 8 := by omega
    have h0 : ¬ ((i : Int) < 0) := by omega
    have h7 : ¬ (7 < (i : Int)) := by omega
    clear hn hin h0 h7
    obtain rfl | rfl | rfl | rfl | rfl | rfl | rfl | rfl : i = 0 ∨ i = 1 ∨ i = 2 ∨ i = 3 ∨ i = 4 ∨ i = 5 ∨ i = 6 ∨ i = 7 := by omega
    all_goals
      go_enter Tryd.func10, Tryd.ntmps10
      go_wp2
      go_ret
      exact ⟨rfl, (Up.refl w).alloc _⟩
set_option maxRecDepth 100000 in
set_option maxHeartbeats 3200000 in
theorem law_of (n c : Int) (w : World) (hn0 : 0 ≤ n) (hn1 : n ≤ 255) (hc0 : -9223372036854775808 ≤ c) (hc1 : c ≤ 9223372036854775807) (hT : TabC w) :
    Calls Tryd.prog 3 #[.int .u8 n, .int .i64 c] w fun e w' => e = .returned (.bool true) ∧ Up w w' := by
  have hnot : ∀ (x : Bool) (w : World), (Op.unary .not (.bool x)).run Tryd.prog w = .ok (.bool (!x)) w := fun _ _ => rfl
  have HT := Lib.hid hT
  clear hT
  go_enter Tryd.func3, Tryd.ntmps3
  go_wp2_with (first
    | (go_at_call 5; refine (awake02 _).mono ?_; rintro e w1 ⟨rfl, hu1⟩)
    | (go_at_call 6; refine (pick02 n ⟨hn0, hn1⟩ _).mono ?_; rintro e w2 ⟨p, k, rfl, hk, hb, hp, hu2⟩))
  have hz : ∀ i, p = some i → w.heap.size ≤ i := fun i hi => by have := hb i hi; have := hu1.size; omega
  have HU := Lib.hid (hu1.trans hu2)
  clear hu1 hu2
  go_loopw [15] (fun q wr => ∃ c : Nat, c ≤ 256 ∧ q = .int .i64 (c : Int) ∧ PgAt wr p k ∧ NearP p w2 wr) (fun q _ => 256 - (intOf q).toNat)
  case atStart => exact ⟨0, by omega, rfl, hp, NearP.refl p w2⟩
  case round =>
    obtain ⟨j, hj, rfl, hp, hn⟩ := hrel
    by_cases hlt : j < 256
    · have c1 := of_is p k hk j hlt
      have d1 := rof_is k hk j hlt
      generalize clsN (j : Int) (signN k j) = v at *
      have HP := Lib.hid hp
      have HN := Lib.hid hn
      clear hp hn
      go_wp2_with (first
        | (go_at_call 7; with_reducible refine (c1 _ HP.out).mono ?_; rintro e w3 ⟨rfl, hp3, hn3⟩)
        | (go_at_call 8; with_reducible refine (d1 _).mono ?_; rintro e w5 ⟨rfl, hu5⟩))
      go_roundw
      case rel => exact ⟨j + 1, by omega, by go_num, hp3.up hu5, (HN.out.trans hn3).up hu5⟩
      case measure => simp [intOf]; omega
    · have hUp := HU.out.keep hn (fun i hi => hz i hi)
      have HUp := Lib.hid hUp
      have hT2 := HT.out.up hUp
      clear hn hUp
      go_wp2_with (first
        | (go_at_call 9; with_reducible refine (name_is c _ hT2).mono ?_; rintro e w3 ⟨rfl, rfl⟩)
        | (go_at_call 10; with_reducible refine (rname_is c _).mono ?_; rintro e w4 ⟨rfl, hu4⟩))
      go_ret
      exact ⟨rfl, HUp.out.trans hu4⟩
end Go.Proofs.YthdoighlfoinaaaDoor
