/-
  What write's Command, of, Byte, Reads and the reference's Command and Byte compute, over the table of names. Condition: the table lies as the row lists it.
-/
import Derived.Test.YtfambgigdhkiaaaDoorRowTab
import Derived.Test.YtfambgigdhkiaaaDoorKeep
import Derived.Test.YtfambgigdhkiaaaDoorHex
import Derived.Deep.MidRow
namespace Go.Proofs.YtfambgigdhkiaaaDoor
open Go.RowKit
set_option linter.unusedVariables false
set_option linter.unusedSimpArgs false

def cmds : List (List UInt8 × Int × Int) :=
  [([78, 111, 116, 104, 105, 110, 103], 3, 3), ([87, 114, 105, 116, 101], 1, 241), ([69, 114, 97, 115, 101, 87, 114, 105, 116, 101], 5, 245),
   ([69, 114, 97, 115, 101, 65, 108, 116, 101, 114, 110, 97, 116, 101], 13, 126), ([69, 114, 97, 115, 101, 85, 110, 112, 114, 111, 116, 101, 99, 116, 101, 100], 15, 111),
   ([82, 101, 97, 100, 66, 117, 102, 102, 101, 114], 2, 242), ([82, 101, 97, 100, 77, 111, 100, 105, 102, 105, 101, 100], 6, 246), ([82, 101, 97, 100, 65, 108, 108], 14, 110),
   ([83, 116, 114, 117, 99, 116, 117, 114, 101, 100], 17, 243)]
def cWord (i : Nat) : ByteArray := ⟨(cmds.getD i ([], 0, 0)).1.toArray⟩
def cOne (i : Nat) : Int := (cmds.getD i ([], 0, 0)).2.1
def cOth (i : Nat) : Int := (cmds.getD i ([], 0, 0)).2.2
theorem gTabW : Tryd.prog.globalNamed "vitrine/write.names" = some 1 := by kernel_rfl
theorem gTabWType : (Tryd.prog.globals[1]?).map (·.type) = some 92 := by kernel_rfl
theorem cellsName : Tryd.prog.cellsOf 91 = 3 := by kernel_rfl
/-- write's table of names lies as the text lays it -/
structure TabW (w : World) : Prop where
  lt : 1 < w.heap.size
  cell : ∀ i, i < 9 → w.cell? ⟨1, 3 * i, none⟩ = some (.string (cWord i)) ∧ w.cell? ⟨1, 3 * i + 1, none⟩ = some (.int .u8 (cOne i)) ∧ w.cell? ⟨1, 3 * i + 2, none⟩ = some (.int .u8 (cOth i))
theorem TabW.keep {w w' : World} {E : Nat → Prop} (h : TabW w) (k : Keep E w w') (hE : ¬ E 1) : TabW w' :=
  ⟨Nat.lt_of_lt_of_le h.lt k.size, fun i hi => by
    obtain ⟨kc, _⟩ := k.at_ 1 h.lt hE
    rw [kc, kc, kc]
    exact h.cell i hi⟩
theorem TabW.up {w w' : World} (h : TabW w) (k : Up w w') : TabW w' := h.keep (E := fun _ => False) (Keep.of_up k) (fun e => e)
theorem cmd_row (i : Nat) (h : i < 9) : cmds[i]? = some ((cWord i).data.toList, cOne i, cOth i) := by
  match i, h with
  | 0, _ | 1, _ | 2, _ | 3, _ | 4, _ | 5, _ | 6, _ | 7, _ | 8, _ => rfl
theorem tabW_of {W : World} {rest : List (String × DataW Unit)} (h : laidMet Tryd.prog (("vitrine/write.names", .agg (cmds.map rowDatum)) :: rest) W) : TabW W := by
  have hc := fun i hi => laid_rows gTabW gTabWType Tryd.underlying92 Tryd.underlying91 cellsName
    Tryd.underlying9 Tryd.underlying5 Tryd.underlying5 rfl rfl rfl (by kernel_rfl) (by kernel_rfl) (by kernel_rfl) h i _ (cmd_row i hi)
  exact ⟨cell_lt (hc 0 (by omega)).1, fun i hi => by
    have := hc i hi
    simpa using this⟩
def crow (i : Nat) : List Value := [.string (cWord i), .int .u8 (cOne i), .int .u8 (cOth i)]
def call9 : List Value := (List.range 9).flatMap crow
theorem call9_len : call9.length = 27 := rfl
theorem call9_at (i : Nat) (h : i < 9) : call9[3 * i]? = some (.string (cWord i)) ∧ call9[3 * i + 1]? = some (.int .u8 (cOne i)) ∧ call9[3 * i + 2]? = some (.int .u8 (cOth i)) := by
  match i, h with
  | 0, _ | 1, _ | 2, _ | 3, _ | 4, _ | 5, _ | 6, _ | 7, _ | 8, _ => exact ⟨rfl, rfl, rfl⟩
theorem TabW.range {w : World} (h : TabW w) : w.rangeAt 1 0 call9 := by
  intro j v hv
  have hj : j < 27 := by have := (List.getElem?_eq_some_iff.1 hv).1; rwa [call9_len] at this
  obtain ⟨i, r, hi, hr, rfl⟩ : ∃ i r, i < 9 ∧ r < 3 ∧ j = 3 * i + r := ⟨j / 3, j % 3, by omega, by omega, by omega⟩
  obtain ⟨a0, a1, a2⟩ := call9_at i hi
  obtain ⟨b0, b1, b2⟩ := h.cell i hi
  rw [Nat.zero_add]
  match r, hr with
  | 0, _ => exact b0.trans (a0.symm.trans hv)
  | 1, _ => exact b1.trans (a1.symm.trans hv)
  | 2, _ => exact b2.trans (a2.symm.trans hv)
def hitC (b : Int) (i : Nat) : Bool := cOne i == b || cOth i == b
def cmdOf (b : Int) : Option Nat := (List.range 9).find? (hitC b)
theorem find_range {f : Nat → Bool} : ∀ {n i : Nat}, i < n → f i = true → (∀ j, j < i → f j = false) → (List.range n).find? f = some i
  | 0, _, h, _, _ => absurd h (by omega)
  | n + 1, i, h, hf, hj => by
    rw [List.range_succ, List.find?_append]
    rcases Nat.lt_or_ge i n with hlt | hge
    · rw [find_range hlt hf hj]; rfl
    · obtain rfl : i = n := by omega
      have : (List.range i).find? f = none := by
        rw [List.find?_eq_none]
        intro x hx
        rw [hj x (by simpa using hx)]
        simp
      simp [this, hf]
theorem find_none {f : Nat → Bool} {n : Nat} (h : ∀ j, j < n → f j = false) : (List.range n).find? f = none := by
  rw [List.find?_eq_none]
  intro x hx
  rw [h x (by simpa using hx)]
  simp
theorem cmdOf_lt {b : Int} {i : Nat} (h : cmdOf b = some i) : i < 9 := by
  have := List.mem_of_find?_eq_some h
  simpa using this
theorem part_agg {P : Program} {t : TypeId} {d : TypeDesc} {n : Nat} (hu : P.underlying t = some d) (hd : d.isRow = true) (hi : (P.info? t).map (·.size) = some n) (cs : Array Value) (off : Nat) (w : World) :
    (part t cs off).run P w = .ok (.agg (cs.extract off (off + n))) w := by
  have hagg : (isAgg t).run P w = .ok true w := by
    unfold isAgg
    rw [Sem.run_bind, run_underlying hu w]
    cases d <;> simp_all [TypeDesc.isRow]
  cases hq : P.info? t with
  | none => simp [hq] at hi
  | some i =>
    have hs : i.size = n := by simpa [hq] using hi
    simp [part, Sem.run_bind, hagg, sizeOf, typeInfo, hq, hs]
theorem run_index_arr {P : Program} {t e : TypeId} {n size : Nat} {cs : Array Value} {v : Value} {w : World} (hu : P.underlying t = some (.array n e)) (i : Nat) (hi : i < n) (hs : (P.info? e).map (·.size) = some size) (hp : (part e cs (i * size)).run P w = .ok v w) :
    (Instr.index t (.agg cs) (.int .i64 (i : Int))).run P w = .ok v w := by
  have hi' : (i : Int) < n := by omega
  cases hq : P.info? e with
  | none => simp [hq] at hs
  | some x =>
    have hx : x.size = size := by simpa [hq] using hs
    simpa [Instr.index, run_underlying hu, asIntOf, hi', hi, go_sem, sizeOf, typeInfo, hq, hx] using hp
theorem idx_cmd (i : Nat) (hi : i < 9) (w : World) : (Instr.index 92 (.agg call9.toArray) (.int .i64 (i : Int))).run Tryd.prog w = .ok (.agg #[.string (cWord i), .int .u8 (cOne i), .int .u8 (cOth i)]) w := by
  refine run_index_arr Tryd.underlying92 i hi (size := 3) (by kernel_rfl) ?_
  rw [part_agg Tryd.underlying91 rfl (n := 3) (by kernel_rfl)]
  have : call9.toArray.extract (i * 3) (i * 3 + 3) = #[.string (cWord i), .int .u8 (cOne i), .int .u8 (cOth i)] := by
    match i, hi with
    | 0, _ | 1, _ | 2, _ | 3, _ | 4, _ | 5, _ | 6, _ | 7, _ | 8, _ => rfl
  rw [this]
set_option maxHeartbeats 1600000 in
theorem cmd_is (b : Int) (w : World) (h : TabW w) :
    Calls Tryd.prog 44 #[.int .u8 b] w fun e w' => e = .returned (.tuple #[.int .i64 (((cmdOf b).getD 0 : Nat) : Int), .bool (cmdOf b).isSome]) ∧ Up w w' := by
  have HR := Lib.hid h.range
  clear h
  go_enter Tryd.func44, Tryd.ntmps44
  go_wp2_with (refine wpList_load_mid rfl 92 (.global 1) rfl 1 0 rfl call9 _ HR.out Tryd.underlying92 rfl (by kernel_rfl) ?_)
  go_loopw [7] (fun q wr => ∃ i : Nat, i ≤ 9 ∧ q = .int .i64 (i : Int) ∧ Up w wr ∧ ∀ j, j < i → hitC b j = false) (fun q _ => 9 - (intOf q).toNat)
  case atStart => exact ⟨0, by omega, rfl, Up.refl w, fun _ h => by omega⟩
  case round =>
    obtain ⟨i, hi, rfl, hu, hno⟩ := hrel
    have HN := Lib.hid hno
    clear hno
    by_cases hlt : i < 9
    · have hix := fun w => idx_cmd i hlt w
      cases h1 : (cOne i == b)
      · cases h2 : (cOth i == b)
        · have H1 := Lib.hid h1
          have H2 := Lib.hid h2
          go_wp2
          go_roundw
          case rel =>
            refine ⟨i + 1, by omega, by go_num, by (repeat (first | with_reducible exact Up.refl _ | with_reducible refine Up.alloc ?_ _ | with_reducible refine Up.drew ?_ | with_reducible refine Up.drewN ?_ _ | with_reducible refine Up.setCell ?_ (by (try simp) <;> omega) _ | with_reducible assumption | with_reducible refine Up.trans ?_ (by assumption))), fun j hj => ?_⟩
            rcases Nat.lt_or_ge j i with h | h
            · exact HN.out j h
            · obtain rfl : j = i := by omega
              simp [hitC, H1.out, H2.out]
          case measure => simp [intOf]; omega
        · have hc := Lib.hid (show cmdOf b = some i from find_range hlt (by simp [hitC, h2]) HN.out)
          go_wp2
          go_ret2
          rw [hc.out]
          exact ⟨rfl, by (repeat (first | with_reducible exact Up.refl _ | with_reducible refine Up.alloc ?_ _ | with_reducible refine Up.drew ?_ | with_reducible refine Up.drewN ?_ _ | with_reducible refine Up.setCell ?_ (by (try simp) <;> omega) _ | with_reducible assumption | with_reducible refine Up.trans ?_ (by assumption)))⟩
      · have hc := Lib.hid (show cmdOf b = some i from find_range hlt (by simp [hitC, h1]) HN.out)
        go_wp2
        go_ret2
        rw [hc.out]
        exact ⟨rfl, by (repeat (first | with_reducible exact Up.refl _ | with_reducible refine Up.alloc ?_ _ | with_reducible refine Up.drew ?_ | with_reducible refine Up.drewN ?_ _ | with_reducible refine Up.setCell ?_ (by (try simp) <;> omega) _ | with_reducible assumption | with_reducible refine Up.trans ?_ (by assumption)))⟩
    · obtain rfl : i = 9 := by omega
      have hc := Lib.hid (show cmdOf b = none from find_none HN.out)
      go_wp2
      go_ret2
      rw [hc.out]
      exact ⟨rfl, hu⟩

/-- the byte of a command; 0: there is none -/
def byteOf (c : Int) : Int := if 0 ≤ c ∧ c < 9 then cOth c.toNat else 0
set_option maxHeartbeats 1600000 in
theorem byte_is (c : Int) (w : World) (h : TabW w) :
    Calls Tryd.prog 48 #[.int .i64 c] w fun e w' => e = .returned (.int .u8 (byteOf c)) ∧ Up w w' := by
  have hof : Calls Tryd.prog 50 #[.int .i64 c] w fun e w' => (∃ s x ok, e = .returned (.tuple #[.agg #[.string s, .int .u8 x, .int .u8 (byteOf c)], .bool ok])) ∧ Up w w' := by
    by_cases hc : 0 ≤ c ∧ c < 9
    · obtain ⟨h0, h9⟩ := hc
      obtain ⟨i, rfl⟩ := Int.eq_ofNat_of_zero_le h0
      have hi : i < 9 := by omega
      obtain ⟨c0, c1, c2⟩ := h.cell i hi
      rw [Nat.mul_comm] at c0 c1 c2
      have hlt := h.lt
      have hb := Lib.hid (show byteOf (i : Int) = cOth i by unfold byteOf; rw [if_pos ⟨h0, h9⟩]; simp)
      clear h
      go_enter Tryd.func50, Tryd.ntmps50
      go_wp2
      rw [hb.out]
      exact bodyPost_ret (v := .tuple #[.agg #[.string (cWord i), .int .u8 (cOne i), .int .u8 (cOth i)], .bool true]) (by simp [results, Tryd.results50, go_sem]) rfl ⟨⟨_, _, _, rfl⟩, by (repeat (first | with_reducible exact Up.refl _ | with_reducible refine Up.alloc ?_ _ | with_reducible refine Up.drew ?_ | with_reducible refine Up.drewN ?_ _ | with_reducible refine Up.setCell ?_ (by (try simp) <;> omega) _ | with_reducible assumption | with_reducible refine Up.trans ?_ (by assumption)))⟩
    · have hb := Lib.hid (show byteOf c = 0 by unfold byteOf; rw [if_neg hc])
      have hc' : c < 0 ∨ 9 ≤ c := by omega
      clear h hc
      rcases hc' with hc | hc
      all_goals
        go_enter Tryd.func50, Tryd.ntmps50
        go_wp2
        rw [hb.out]
        exact bodyPost_ret (v := .tuple #[.agg #[.string ⟨#[]⟩, .int .u8 0, .int .u8 0], .bool false]) (by simp [results, Tryd.results50, go_sem]) rfl ⟨⟨_, _, _, rfl⟩, by (repeat (first | with_reducible exact Up.refl _ | with_reducible refine Up.alloc ?_ _ | with_reducible refine Up.drew ?_ | with_reducible refine Up.drewN ?_ _ | with_reducible refine Up.setCell ?_ (by (try simp) <;> omega) _ | with_reducible assumption | with_reducible refine Up.trans ?_ (by assumption)))⟩
  go_enter Tryd.func48, Tryd.ntmps48
  go_wp2_with (go_at_call 50; refine hof.mono ?_; rintro e w1 ⟨⟨s, x, ok, rfl⟩, hu⟩)
  go_ret
  exact ⟨rfl, by (repeat (first | with_reducible exact Up.refl _ | with_reducible refine Up.alloc ?_ _ | with_reducible refine Up.drew ?_ | with_reducible refine Up.drewN ?_ _ | with_reducible refine Up.setCell ?_ (by (try simp) <;> omega) _ | with_reducible assumption | with_reducible refine Up.trans ?_ (by assumption)))⟩
set_option maxHeartbeats 1600000 in
theorem reads_is (c : Int) (w : World) :
    Calls Tryd.prog 45 #[.int .i64 c] w fun e w' => e = .returned (.bool (decide (5 ≤ c) && decide (c ≤ 7))) ∧ w = w' := by
  by_cases h : 5 ≤ c
  · by_cases h' : c ≤ 7
    all_goals
      go_enter Tryd.func45, Tryd.ntmps45
      go_wp2
      go_ret
      exact ⟨ret_bool (by simp [h, h']), rfl⟩
  · go_enter Tryd.func45, Tryd.ntmps45
    go_wp2
    go_ret
    exact ⟨ret_bool (by simp; omega), rfl⟩
end Go.Proofs.YtfambgigdhkiaaaDoor
