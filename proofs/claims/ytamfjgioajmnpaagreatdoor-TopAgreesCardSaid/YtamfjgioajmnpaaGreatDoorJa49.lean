/-
option's Quiet over a machine: whole arrays are copied. No condition.
The walk of TopAgrees. No condition.
-/
import Derived.Test.YtamfjgioajmnpaaGreatDoorJa31
import Derived.Deep.MidRow
import Derived.Test.YtamfjgioajmnpaaGreatDoorJa48
import Derived.Deep.CutBlock
namespace Go.Proofs.YtamfjgioajmnpaaGreatDoor
open Go.RowKit
set_option linter.unusedVariables false
set_option linter.unusedSimpArgs false

def sts (S : Nat → Nat → Int) (i : Nat) : List Value := (List.range 256).map fun o => Value.int .u8 (S i o)
def ags (G : Nat → Nat → Bool) (i : Nat) : List Value := (List.range 256).map fun o => Value.bool (G i o)
def mrow (S : Nat → Nat → Int) (G : Nat → Nat → Bool) (i : Nat) : List Value := sts S i ++ ags G i
def mall (S : Nat → Nat → Int) (G : Nat → Nat → Bool) : List Value := mrow S G 0 ++ mrow S G 1
theorem sts_len (S : Nat → Nat → Int) (i : Nat) : (sts S i).length = 256 := by rw [sts, List.length_map, List.length_range]
theorem ags_len (G : Nat → Nat → Bool) (i : Nat) : (ags G i).length = 256 := by rw [ags, List.length_map, List.length_range]
theorem mrow_len (S : Nat → Nat → Int) (G : Nat → Nat → Bool) (i : Nat) : (mrow S G i).length = 512 := by rw [mrow, List.length_append, sts_len, ags_len]
theorem mall_len (S : Nat → Nat → Int) (G : Nat → Nat → Bool) : (mall S G).length = 1024 := by rw [mall, List.length_append, mrow_len, mrow_len]
theorem sts_at (S : Nat → Nat → Int) (i o : Nat) (h : o < 256) : (sts S i)[o]? = some (.int .u8 (S i o)) := by rw [sts, List.getElem?_map, List.getElem?_range h]; rfl
theorem ags_at (G : Nat → Nat → Bool) (i o : Nat) (h : o < 256) : (ags G i)[o]? = some (.bool (G i o)) := by rw [ags, List.getElem?_map, List.getElem?_range h]; rfl
theorem MAt.range {w : World} {b : Nat} {S : Nat → Nat → Int} {G : Nat → Nat → Bool} (h : MAt w b S G) : w.rangeAt b 0 (mall S G) := by
  intro j v hv
  rw [Nat.zero_add]
  have hj : j < 1024 := by have := (List.getElem?_eq_some_iff.1 hv).1; rwa [mall_len] at this
  have main : ∀ i j, i < 2 → j < 512 → ∀ v, (mrow S G i)[j]? = some v → w.cell? ⟨b, 512 * i + j, none⟩ = some v := by
    intro i j hi hj v hv
    unfold mrow at hv
    by_cases hlt : j < 256
    · rw [List.getElem?_append_left (by rw [sts_len]; exact hlt), sts_at _ _ _ hlt] at hv
      exact (h i j hi hlt).1.1.trans hv
    · rw [List.getElem?_append_right (by rw [sts_len]; omega), sts_len, ags_at _ _ _ (by omega)] at hv
      have := (h i (j - 256) hi (by omega)).2.1
      rw [show 512 * i + 256 + (j - 256) = 512 * i + j by omega] at this
      exact this.trans hv
  unfold mall at hv
  by_cases hlt : j < 512
  · rw [List.getElem?_append_left (by rw [mrow_len]; exact hlt)] at hv
    have := main 0 j (by omega) hlt v hv
    rwa [Nat.mul_zero, Nat.zero_add] at this
  · rw [List.getElem?_append_right (by rw [mrow_len]; omega), mrow_len] at hv
    have := main 1 (j - 512) (by omega) (by omega) v hv
    rwa [show 512 * 1 + (j - 512) = j by omega] at this
theorem sts_one (S : Nat → Nat → Int) (i : Nat) : ∀ v ∈ sts S i, v.oneCell' = true := by
  intro v hv
  simp only [sts, List.mem_map] at hv
  obtain ⟨_, _, rfl⟩ := hv
  rfl
theorem mrow_one (S : Nat → Nat → Int) (G : Nat → Nat → Bool) (i : Nat) : ∀ v ∈ mrow S G i, v.oneCell' = true := by
  intro v hv
  rcases List.mem_append.1 hv with hv | hv
  · exact sts_one S i v hv
  · simp only [ags, List.mem_map] at hv
    obtain ⟨_, _, rfl⟩ := hv
    rfl
theorem part_agg9 {P : Program} {t : TypeId} {d : TypeDesc} {n : Nat} (hu : P.underlying t = some d) (hd : d.isRow = true) (hi : (P.info? t).map (·.size) = some n) (cs : Array Value) (off : Nat) (w : World) :
    (part t cs off).run P w = .ok (.agg (cs.extract off (off + n))) w := by
  have hagg : (isAgg t).run P w = .ok true w := by
    unfold isAgg
    rw [Sem.run_bind, run_underlying hu w]
    cases d <;> simp_all [TypeDesc.isRow]
  cases hq : P.info? t with
  | none => simp [hq] at hi
  | some i =>
    have hs : i.size = n := by simpa [hq] using hi
    simp [part, Sem.run_bind, hagg, sizeOf, typeInfo, hq, hs]
theorem part_one {P : Program} {t : TypeId} {d : TypeDesc} (hu : P.underlying t = some d) (hd : d.isRow = false) (cs : Array Value) (off : Nat) (v : Value) (hv : cs[off]? = some v) (w : World) :
    (part t cs off).run P w = .ok v w := by
  have hagg : (isAgg t).run P w = .ok false w := by
    unfold isAgg
    rw [Sem.run_bind, run_underlying hu w]
    cases d <;> simp_all [TypeDesc.isRow]
  simp [part, Sem.run_bind, hagg, hv]
theorem run_index_arr9 {P : Program} {t e : TypeId} {n size : Nat} {cs : Array Value} {v : Value} {w : World} (hu : P.underlying t = some (.array n e)) (i : Nat) (hi : i < n) (hs : (P.info? e).map (·.size) = some size) (hp : (part e cs (i * size)).run P w = .ok v w) :
    (Instr.index t (.agg cs) (.int .i64 (i : Int))).run P w = .ok v w := by
  have hi' : (i : Int) < n := by omega
  cases hq : P.info? e with
  | none => simp [hq] at hs
  | some x =>
    have hx : x.size = size := by simpa [hq] using hs
    simpa [Instr.index, run_underlying hu, asIntOf, hi', hi, go_sem, sizeOf, typeInfo, hq, hx] using hp
theorem list_cut {α : Type} (a b c : List α) : ((a ++ b ++ c).toArray.extract a.length (a.length + b.length)) = b.toArray := by
  simp
theorem idx_row (S : Nat → Nat → Int) (G : Nat → Nat → Bool) (i : Nat) (hi : i < 2) (w : World) : (Instr.index 154 (.agg (mall S G).toArray) (.int .i64 (i : Int))).run Tryz.prog w = .ok (.agg (mrow S G i).toArray) w := by
  have hex : (mall S G).toArray.extract (i * 512) (i * 512 + 512) = (mrow S G i).toArray := by
    obtain rfl | rfl : i = 0 ∨ i = 1 := by omega
    · have := list_cut [] (mrow S G 0) (mrow S G 1)
      rw [mrow_len] at this
      simpa [mall] using this
    · have := list_cut (mrow S G 0) (mrow S G 1) []
      rw [mrow_len, mrow_len] at this
      simpa [mall] using this
  refine run_index_arr9 Tryz.underlying154 i hi (size := 512) (by kernel_rfl) ?_
  rw [part_agg9 Tryz.underlying153 rfl (n := 512) (by kernel_rfl), hex]
theorem idx_st (S : Nat → Nat → Int) (i o : Nat) (ho : o < 256) (w : World) : (Instr.index 150 (.agg (sts S i).toArray) (.int .i64 (o : Int))).run Tryz.prog w = .ok (.int .u8 (S i o)) w := by
  refine run_index_arr9 Tryz.underlying150 o ho (size := 1) (by kernel_rfl) ?_
  exact part_one Tryz.underlying149 rfl _ _ _ (by rw [Nat.mul_one]; exact (List.getElem?_toArray ..).trans (sts_at S i o ho)) w
theorem up_setCells {w : World} {b : Nat} : ∀ (vs : List Value) (o : Nat) (x : World), Up w x → w.heap.size ≤ b → Up w (x.setCells b o vs)
  | [], _, _, h, _ => h
  | v :: r, o, x, h, hb => by
    rw [World.setCells]
    exact up_setCells r (o + 1) _ (h.setCell (p := ⟨b, o, none⟩) hb v) hb
theorem size_sets (b : Nat) : ∀ (vs : List Value) (o : Nat) (x : World), (x.setCells b o vs).heap.size = x.heap.size
  | [], _, _ => rfl
  | v :: r, o, x => by rw [World.setCells, size_sets b r]; simp [World.setCell]
theorem copy_row {P : Program} (w : World) (vs : List Value) (cs : Array Value) (t : TypeId) (hl : vs.length = cs.size) (h1 : ∀ v ∈ vs, v.oneCell' = true) :
    ∃ w1, (storeCells ⟨w.heap.size, 0, none⟩ vs).run P (w.alloc (.cells cs t)) = .ok () w1 ∧ Up w w1 ∧ w1.rangeAt w.heap.size 0 vs ∧ w.heap.size < w1.heap.size := by
  have hth : (w.alloc (.cells cs t)).there w.heap.size 0 vs.length := fun j hj => by
    rw [Nat.zero_add, World.cell?_alloc_new]
    exact ⟨by rw [Array.getElem?_eq_getElem (by omega)]; rfl, by simp⟩
  refine ⟨_, run_storeCells_cells (P := P) w.heap.size 0 vs 0 _ (fun j hj => (hth j hj).1) (fun j hj => (hth j hj).2) h1, up_setCells _ _ _ ((Up.refl w).alloc _) (Nat.le_refl _), World.rangeAt_setCells_same _ _ _ _ hth, ?_⟩
  rw [size_sets]; simp
def side0 : Array Value := (List.replicate 256 (Value.int .u8 0) ++ List.replicate 256 (Value.bool false)).toArray
theorem zero_side_name : Tryz.zeroCells153 = side0 := by kernel_rfl
theorem side0_size : side0.size = 512 := by rw [side0, List.size_toArray, List.length_append, List.length_replicate, List.length_replicate]
def QuietPost (S : Nat → Nat → Int) (w : World) (e : Ending) (w' : World) : Prop := (∃ t : Bool, e = .returned (.bool t) ∧ (t = true ↔ ∀ i o, i < 2 → o < 256 → S i o ≤ 1)) ∧ Up w w'
set_option maxRecDepth 100000 in
set_option maxHeartbeats 3200000 in
theorem quiet_is (b : Nat) (S : Nat → Nat → Int) (G : Nat → Nat → Bool) (w : World) (hm : MAt w b S G) :
    Calls Tryz.prog 33 #[.pointer (some ⟨b, 0, none⟩)] w (QuietPost S w) := by
  have hrg := hm.range
  have hS : ∀ i o, i < 2 → o < 256 → Hid True := fun _ _ _ _ => trivial
  have HR := Lib.hid hrg
  clear hm hrg hS
  go_enter Tryz.func33, Tryz.ntmps33
  go_wp2_with (refine wpList_load_mid rfl 154 (.tmp 11) rfl b 0 rfl (mall S G) _ HR.out Tryz.underlying154 rfl (by rw [mall_len]; kernel_rfl) ?_)
  go_loopw [13] (fun q wr => ∃ i : Nat, i ≤ 2 ∧ q = .int .i64 (i : Int) ∧ Up w wr ∧ ∀ i' o, i' < i → o < 256 → S i' o ≤ 1) (fun q _ => 2 - (intOf q).toNat)
  case atStart => exact ⟨0, by omega, rfl, Up.refl w, fun _ _ h => by omega⟩
  case round =>
    obtain ⟨i, hi, rfl, hu, hall⟩ := hrel
    have HA := Lib.hid hall
    clear hall
    by_cases hlt : i < 2
    · have hix := fun w => idx_row S G i hlt w
      go_wp2_with fail
      rw [zero_side_name]
      obtain ⟨w1, hst, hu1, hr1, hz1⟩ := copy_row (P := Tryz.prog) wr (mrow S G i) side0 153 (by rw [mrow_len, side0_size]) (mrow_one S G i)
      have HST := Lib.hid hst
      have HU1 := Lib.hid hu1
      have hr2 : w1.rangeAt wr.heap.size 0 (sts S i) := fun j v hv => hr1 j v (by
        unfold mrow
        rw [List.getElem?_append_left (List.getElem?_eq_some_iff.1 hv).1]
        exact hv)
      have HR2 := Lib.hid hr2
      clear hst hu1 hr1 hr2 hix
      go_wp2_with fail
      rw [HST.out]
      clear HST
      go_wp2_with fail
      refine wp_load_mid 150 (.tmp 16) rfl wr.heap.size 0 rfl (sts S i) _ HR2.out Tryz.underlying150 rfl (by rw [sts_len]; kernel_rfl) ?_
      go_wp2_with fail
      go_loopw [6, 18] (fun _ q wq => ∃ o : Nat, o ≤ 256 ∧ q = .int .i64 (o : Int) ∧ Up w1 wq ∧ ∀ o', o' < o → S i o' ≤ 1) (fun _ q _ => 256 - (intOf q).toNat)
      case atStart => exact ⟨0, by omega, rfl, Up.refl w1, fun _ h => by omega⟩
      case round =>
        obtain ⟨o, ho, rfl, huq, hin⟩ := hrel
        have HIN := Lib.hid hin
        clear hin
        by_cases hlo : o < 256
        · have hix := fun w => idx_st S i o hlo w
          by_cases h1 : S i o ≤ 1
          · have h1' : ¬ (1 < S i o) := by omega
            go_wp2
            go_roundw
            case rel =>
              refine ⟨o + 1, by omega, by go_num, huq, fun o' h' => ?_⟩
              rcases Nat.lt_or_ge o' o with h | h
              · exact HIN.out o' h
              · obtain rfl : o' = o := by omega
                exact h1
            case measure => simp [intOf]; omega
          · have h1' : 1 < S i o := by omega
            go_wp2
            go_ret
            exact ⟨⟨false, rfl, by
              constructor
              · intro h; cases h
              · intro h; exact absurd (h i o hlt hlo) (by omega)⟩, (hu.trans HU1.out).trans huq⟩
        · obtain rfl : o = 256 := by omega
          go_wp2
          go_roundw
          case rel =>
            refine ⟨i + 1, by omega, by go_num, (hu.trans HU1.out).trans huq, fun i' o' h' ho' => ?_⟩
            rcases Nat.lt_or_ge i' i with h | h
            · exact HA.out i' o' h ho'
            · obtain rfl : i' = i := by omega
              exact HIN.out o' ho'
          case measure => simp [intOf]; omega
    · obtain rfl : i = 2 := by omega
      go_wp2
      go_ret
      exact ⟨⟨true, rfl, by simpa using HA.out⟩, hu⟩
end Go.Proofs.YtamfjgioajmnpaaGreatDoor
namespace Go.Proofs.YtamfjgioajmnpaaGreatDoor
open Go.RowKit
set_option linter.unusedVariables false
set_option linter.unusedSimpArgs false
attribute [local go_sem] Oper.semAt_some

theorem wrap_small (n : Nat) (h : n ≤ 1000) : wrap64 (n : Int) = (n : Int) := by unfold wrap64; omega
theorem said_more {s : Nat} {Y : List (Int × Int)} (h : s + Y.length ≤ 1000) : wrap64 ((s : Int) + wrap64 (((wordsB Y).length : Int) / 3)) = ((s + Y.length : Nat) : Int) := by
  rw [wordsB_len]
  have e1 : wrap64 (((3 * Y.length : Nat) : Int) / 3) = (Y.length : Int) := by
    rw [show ((3 * Y.length : Nat) : Int) / 3 = (Y.length : Int) by omega]
    exact wrap_small _ (by omega)
  rw [e1, show ((s : Int) + (Y.length : Int)) = ((s + Y.length : Nat) : Int) by omega]
  exact wrap_small _ h
abbrev AskT := Bool × Int × Int × Bool
def encAsk (x : AskT) : List Value := [.bool x.1, .int .u8 x.2.1, .int .u8 x.2.2.1, .bool x.2.2.2]
theorem askt_at {w : World} {B b off n : Nat} {L : List AskT} (h : Reads w B 4 (some ⟨b, off, none⟩) n (L.flatMap encAsk)) {j : Nat} {x : AskT} (hj : L[j]? = some x) :
    w.cell? ⟨b, off + j * 4, none⟩ = some (.bool x.1) ∧ w.cell? ⟨b, off + j * 4 + 1, none⟩ = some (.int .u8 x.2.1) ∧ w.cell? ⟨b, off + j * 4 + 2, none⟩ = some (.int .u8 x.2.2.1) ∧ w.cell? ⟨b, off + j * 4 + 3, none⟩ = some (.bool x.2.2.2) := by
  have := row_at (enc := encAsk) (k := 4) (fun _ => rfl) h hj (by decide)
  exact ⟨this 0 _ rfl, this 1 _ rfl, this 2 _ rfl, this 3 _ rfl⟩
theorem tName_ok : NameOk ⟨#[84]⟩ := by
  have hall : ∀ b ∈ (⟨#[84]⟩ : ByteArray).data.toList, 33 ≤ (b.toNat : Int) ∧ (b.toNat : Int) ≤ 126 := by decide
  refine ⟨fun k h => hall _ ?_, by kernel_rfl, by decide⟩
  exact Array.mem_toList_iff.2 (Array.getElem_mem (xs := (⟨#[84]⟩ : ByteArray).data) h)
theorem quiet_yes {b : Nat} {S : Nat → Nat → Int} {G : Nat → Nat → Bool} {w : World} (hm : MAt w b S G) (h : ∀ i o, i < 2 → o < 256 → S i o ≤ 1) :
    Calls Tryz.prog 33 #[.pointer (some ⟨b, 0, none⟩)] w fun e w' => e = .returned (.bool true) ∧ Up w w' := by
  refine (quiet_is b S G w hm).mono ?_
  rintro e w' ⟨⟨t, rfl, ht⟩, hu⟩
  rw [ht.2 h]
  exact ⟨rfl, hu⟩
set_option maxRecDepth 100000 in
set_option maxHeartbeats 6400000 in
theorem law_agrees (x : Bool) (A1 : Option Addr) (n1 c1 : Nat) (l1 : List Int) (A2 : Option Addr) (n2 c2 : Nat) (l2 : List Int) (A3 : Option Addr) (n3 c3 : Nat) (L : List AskT) (w : World)
    (hl1 : l1.length = n1) (hn1 : n1 ≤ c1) (hc1 : c1 ≤ maxLen) (hw1 : ∀ x ∈ l1, 0 ≤ x ∧ x ≤ 255) (hr1 : Reads w w.heap.size 1 A1 n1 (l1.map (Value.int .u8)))
    (hl2 : l2.length = n2) (hn2 : n2 ≤ c2) (hc2 : c2 ≤ maxLen) (hw2 : ∀ x ∈ l2, 0 ≤ x ∧ x ≤ 255) (hr2 : Reads w w.heap.size 1 A2 n2 (l2.map (Value.int .u8)))
    (hl3 : L.length = n3) (hn3 : n3 ≤ c3) (hc3 : c3 ≤ maxLen) (hw3 : ∀ x ∈ L, 0 ≤ x.2.1 ∧ x.2.1 ≤ 255 ∧ 0 ≤ x.2.2.1 ∧ x.2.2.1 ≤ 255) (hr3 : Reads w w.heap.size 4 A3 n3 (L.flatMap encAsk)) (hT : TabW w) :
    Calls Tryz.prog 5 #[.bool x, .slice A1 n1 c1, .slice A2 n2 c2, .slice A3 n3 c3] w fun e w' => e = .returned (.bool true) ∧ Up w w' := by
  have hn3' : n3 ≤ 9223372036854775807 := by simp [maxLen] at hc3; omega
  obtain ⟨i0, hi, hz0, hz1, hz2⟩ := info_parts info_u8
  have HR1 : Hid (Reads w w.heap.size 1 A1 n1 (bs l1)) := hr1
  have HR2 : Hid (Reads w w.heap.size 1 A2 n2 (bs l2)) := hr2
  have HR3 := Lib.hid hr3
  have HL := Lib.hid hl3
  have HW1 := Lib.hid hw1
  have HW2 := Lib.hid hw2
  have HW3 := Lib.hid hw3
  have HT := Lib.hid hT
  clear hr1 hr2 hr3 hl1 hl2 hl3 hw1 hw2 hw3 hT
  go_enter Tryz.func5, Tryz.ntmps5
  go_wp2_with fail
  refine (works_is HT.out).mono ?_
  rintro e wa ⟨rfl, ua⟩
  have HUA := Lib.hid ua
  clear ua
  go_wp2_with fail
  refine (sesnew_is (l := []) (G := fun _ => False) tName_ok Bt.none_ (fun W _ => rises0_is 0 W) (by omega) (by omega) (by omega) (by decide) (HT.out.up HUA.out)).mono ?_
  rintro e wb ⟨b, rfl, hs, ub⟩
  have HS := Lib.hid hs
  have HUB := Lib.hid (HUA.out.trans ub)
  have hzab : w.heap.size ≤ wa.heap.size ∧ wa.heap.size ≤ wb.heap.size := ⟨HUA.out.size, ub.size⟩
  clear hs ub
  go_wp2_with fail
  refine (cut_own (HR1.out.up HUB.out) hn1 hc1 20 (by omega) (by omega)).mono ?_
  rintro e w11 ⟨B1, m1, d1, rfl, hm1, hs1, hf1, hd1, he1, u1⟩
  have hs1' := Lib.hid hs1
  clear hf1 hs1
  go_wp2_with fail
  refine (cut_own (HR2.out.up (HUB.out.trans u1)) hn2 hc2 20 (by omega) (by omega)).mono ?_
  rintro e w21 ⟨B2, m2, d2, rfl, hm2, hs2, hf2, hd2, he2, u2⟩
  have hs1 := hs1'.out.up u2
  clear hf2 hs1'
  go_wp2_with fail
  refine (new_at hs1 hs2 (by omega) (by omega) (fun x hx => HW1.out x (List.mem_of_mem_take hx)) (fun x hx => HW2.out x (List.mem_of_mem_take hx))).mono ?_
  rintro e w0 ⟨bm, rfl, hb0, hb0', hm0, u0⟩
  clear hs1 hs2
  generalize agr _ _ = G0 at hm0
  have hub0 : Up wb w0 := (u1.trans u2).trans u0
  have zz : wb.heap.size ≤ w21.heap.size := (u1.trans u2).size
  have HG : ∃ G : Nat → Nat → Nat → Bool, G 0 = G0 ∧ G 1 = agr (usL x) [0, 25] := ⟨fun e => if e = 0 then G0 else agr (usL x) [0, 25], rfl, rfl⟩
  obtain ⟨G, hG0, hG1⟩ := HG
  have hI0 : AgI w b bm G 0 0 [] [] none 0 w0 := by
    refine ⟨newLk ⟨#[84]⟩ [] x, _, fun _ _ _ => 0, fun _ => [], fun _ _ => 0, ⟨⟨HS.out.up hub0, ?_, hb0', fun e => ?_, fun k hk => ?_, by omega, HUB.out.trans hub0⟩, ⟨rfl, rfl, rfl, Nat.zero_le _, rfl, ?_⟩, rfl, Row.none_, ends_start G, rfl, rfl, ?_⟩⟩
    · rw [hG0]; exact hm0
    · have := e.2; omega
    · have := hk.1; omega
    · rw [hG1]; rfl
    · decide
  have HI0 := Lib.hid hI0
  have HU0 := Lib.hid (HUB.out.trans hub0)
  clear hI0 hm0 hub0 hG0 hG1 u1 u2 u0 hm1 hm2 hd1 he1 hd2 he2 hn1 hc1 hn2 hc2 HW1 HW2 HR1 HR2 HS HUA HUB hzab zz hb0
  go_upto_block 0 with (fail)
  go_cut [12, 13, 14, 15, 16, 17, 18, 19, 20] from 41 to 92 (fun v12 v13 v14 _ _ _ _ _ _ wr => ∃ (a s : Nat) (Y : List (Int × Int)) (A : Option Addr) (c : Nat), a ≤ 30 ∧ v12 = .int .i64 (a : Int) ∧ v13 = .int .i64 (s : Int) ∧ v14 = .slice A (wordsB Y).length c ∧ AgI w b bm G a s Y [] A c wr)
  case first =>
    go_wp2_with fail
    go_loopw [12, 13, 14, 41] (fun v12 v13 v14 i wr => ∃ (j a s : Nat) (Y : List (Int × Int)) (A : Option Addr) (c : Nat), j ≤ n3 ∧ j ≤ 30 ∧ a ≤ j ∧ v12 = .int .i64 (a : Int) ∧ v13 = .int .i64 (s : Int) ∧ v14 = .slice A (wordsB Y).length c ∧ i = .int .i64 (j : Int) ∧ AgI w b bm G a s Y [] A c wr) (fun _ _ _ i _ => n3 - (intOf i).toNat)
    case atStart => exact ⟨0, 0, 0, [], none, 0, by omega, by omega, by omega, rfl, rfl, rfl, rfl, HI0.out⟩
    case round =>
      obtain ⟨j, a, s, Y, A, c, hj, hj30, ha, rfl, rfl, rfl, rfl, hI⟩ := hrel
      by_cases hlt : j < n3
      · obtain ⟨g3, off, rfl, hg3⟩ := HR3.out.form (by omega)
        have hx : L[j]? = some (L[j]'(by have := HL.out; omega)) := List.getElem?_eq_getElem _
        have hwx := HW3.out _ (List.mem_of_getElem? hx)
        have hup : Up w wr := by obtain ⟨_, _, _, _, _, h⟩ := hI; exact h.st.up
        obtain ⟨x1, x2, x3, x4⟩ := askt_at (HR3.out.up hup) hx
        have hzr := hup.size
        have hg3r : g3 < wr.heap.size := by omega
        generalize L[j]'(by have := HL.out; omega) = y at x1 x2 x3 x4 hwx
        obtain ⟨hear, sd, op, on⟩ := y
        obtain ⟨hs0, hs1, ho0, ho1⟩ := hwx
        simp only at x1 x2 x3 x4 hs0 hs1 ho0 ho1
        have HI := Lib.hid hI
        clear hx hup hI
        by_cases h30 : j < 30
        · cases hear
          · obtain ⟨i, hi2, hie⟩ : ∃ i : Nat, i < 2 ∧ sd % 2 = (i : Int) := ⟨(sd % 2).toNat, by omega, by omega⟩
            obtain ⟨k, hk48, hke⟩ : ∃ k : Nat, k < 48 ∧ op % 48 = (k : Int) := ⟨(op % 48).toNat, by omega, by omega⟩
            go_wp2_with fail
            rw [hie, hke]
            obtain ⟨Lk, F, S, Yf, f, hX⟩ := HI.out.upw ((Up.refl wr).alloc (.cells #[.bool false, .int .u8 sd, .int .u8 op, .bool on] 72))
            refine (ag_ask HT.out hX hi2 hk48).mono ?_
            rintro e w2 ⟨Am, cm, K, E, rfl, hE, hK, hrm, hI2⟩
            have HRM := Lib.hid hrm
            have HI2 := Lib.hid hI2
            clear hX hrm hI2
            have haI : (a : Int) ≤ 30 := by omega
            rcases hE with rfl | rfl
            · rcases hK with rfl | ⟨q, rfl, hq0, hq1⟩
              · go_wp2_with fail
                refine wp_loop_rounds 1 ?_
                rw [rounds_succ]
                go_wp2
                go_roundw
                case rel => exact ⟨j + 1, a + 1, s, Y, A, c, by omega, by omega, by omega, by go_num, rfl, rfl, by go_num, by have h9 := HI2.out; simpa using h9⟩
                case measure => simp [intOf]; omega
              · obtain ⟨L2, F2, S2, Y2, f2, hX2⟩ := HI2.out
                have hlen := hX2.len
                obtain ⟨g2, o2, e2, hg2⟩ := HRM.out.form (by simp)
                subst e2
                obtain ⟨zg2, u0, hu0, hc0⟩ := HRM.out.at_ (j := 0) (by simp)
                obtain ⟨-, u1', hu1', hc1⟩ := HRM.out.at_ (j := 1) (by simp)
                obtain rfl : Value.int .u8 q = u0 := by simpa [ms] using hu0
                obtain rfl : Value.int .u8 (k : Int) = u1' := by simpa [ms] using hu1'
                have m0 : w2.cell? ⟨g2, o2, none⟩ = some (.int .u8 q) := hc0
                have m1 : w2.cell? ⟨g2, o2 + 1, none⟩ = some (.int .u8 (k : Int)) := hc1
                have hYl : Y.length ≤ 62 := by (try simp at hlen); omega
                have hq1' : (wordsB Y).length + 3 ≤ maxLen := by rw [wordsB_len]; simp [maxLen]; omega
                have hq2' : ((wordsB Y).length + 3) * 1 ≤ 140737488355328 := by rw [wordsB_len]; omega
                have HX2 := Lib.hid hX2
                clear hu0 hu1' hc0 hc1 hX2 hlen
                simp only [List.length_cons, List.length_nil, Nat.zero_add]
                go_wp2_with fail
                refine wp_loop_rounds 2 ?_
                rw [rounds_succ]
                go_wp2_with (first
                  | (go_at_call 30; refine (msg3_is _ _ _).mono ?_; rintro e w3 ⟨A3, c3, rfl, hr3, hu3⟩; have HR3' := Lib.hid hr3; have HU3 := Lib.hid (((Up.refl w2).alloc _).trans hu3); clear hr3 hu3)
                  | (at_builtin; go_must (refine wpList_row rfl 30 rfl 5 i0 _ 1 1 Tryz.underlying30 hi hz0 hz1 hz2 rfl (by decide) rfl (Row.up HX2.out.way HU3.out) rfl HR3'.out (one_bs [255, q, (k : Int)]) hq1' hq2' ?_; intro A4 c4 w4 hr4 hg4 hb4; have HR4 := Lib.hid hr4; have HG4 := Lib.hid hg4; clear hr4 hg4 hb4)))
                all_goals (try rw [rounds_succ])
                all_goals go_wp2
                go_roundw
                case rel =>
                  have h9 := ag_grow (K := [(q, (k : Int))]) HT.out (HX2.out.upw HU3.out) HG4.out (by rw [wordsB_app, List.length_append, bs_app]; exact HR4.out)
                  exact ⟨j + 1, a + 1, s, Y ++ [(q, (k : Int))], A4, c4, by omega, by omega, by omega, by go_num, rfl, by rw [wordsB_app, List.length_append]; rfl, by go_num, by simpa using h9⟩
                case measure => simp [intOf]; omega
            · rcases hK with rfl | ⟨q, rfl, hq0, hq1⟩
              · go_wp2_with fail
                refine wp_loop_rounds 1 ?_
                rw [rounds_succ]
                go_wp2
                go_roundw
                case rel => exact ⟨j + 1, a, s, Y, A, c, by omega, by omega, by omega, by go_num, rfl, rfl, by go_num, by have h9 := HI2.out; simpa using h9⟩
                case measure => simp [intOf]; omega
              · obtain ⟨L2, F2, S2, Y2, f2, hX2⟩ := HI2.out
                have hlen := hX2.len
                obtain ⟨g2, o2, e2, hg2⟩ := HRM.out.form (by simp)
                subst e2
                obtain ⟨zg2, u0, hu0, hc0⟩ := HRM.out.at_ (j := 0) (by simp)
                obtain ⟨-, u1', hu1', hc1⟩ := HRM.out.at_ (j := 1) (by simp)
                obtain rfl : Value.int .u8 q = u0 := by simpa [ms] using hu0
                obtain rfl : Value.int .u8 (k : Int) = u1' := by simpa [ms] using hu1'
                have m0 : w2.cell? ⟨g2, o2, none⟩ = some (.int .u8 q) := hc0
                have m1 : w2.cell? ⟨g2, o2 + 1, none⟩ = some (.int .u8 (k : Int)) := hc1
                have hYl : Y.length ≤ 62 := by (try simp at hlen); omega
                have hq1' : (wordsB Y).length + 3 ≤ maxLen := by rw [wordsB_len]; simp [maxLen]; omega
                have hq2' : ((wordsB Y).length + 3) * 1 ≤ 140737488355328 := by rw [wordsB_len]; omega
                have HX2 := Lib.hid hX2
                clear hu0 hu1' hc0 hc1 hX2 hlen
                simp only [List.length_cons, List.length_nil, Nat.zero_add]
                go_wp2_with fail
                refine wp_loop_rounds 2 ?_
                rw [rounds_succ]
                go_wp2_with (first
                  | (go_at_call 30; refine (msg3_is _ _ _).mono ?_; rintro e w3 ⟨A3, c3, rfl, hr3, hu3⟩; have HR3' := Lib.hid hr3; have HU3 := Lib.hid (((Up.refl w2).alloc _).trans hu3); clear hr3 hu3)
                  | (at_builtin; go_must (refine wpList_row rfl 30 rfl 5 i0 _ 1 1 Tryz.underlying30 hi hz0 hz1 hz2 rfl (by decide) rfl (Row.up HX2.out.way HU3.out) rfl HR3'.out (one_bs [255, q, (k : Int)]) hq1' hq2' ?_; intro A4 c4 w4 hr4 hg4 hb4; have HR4 := Lib.hid hr4; have HG4 := Lib.hid hg4; clear hr4 hg4 hb4)))
                all_goals (try rw [rounds_succ])
                all_goals go_wp2
                go_roundw
                case rel =>
                  have h9 := ag_grow (K := [(q, (k : Int))]) HT.out (HX2.out.upw HU3.out) HG4.out (by rw [wordsB_app, List.length_append, bs_app]; exact HR4.out)
                  exact ⟨j + 1, a, s, Y ++ [(q, (k : Int))], A4, c4, by omega, by omega, by omega, by go_num, rfl, by rw [wordsB_app, List.length_append]; rfl, by go_num, by simpa using h9⟩
                case measure => simp [intOf]; omega
          · go_wp2_with fail
            obtain ⟨Lk, F, S, Yf, f, hX⟩ := HI.out.upw ((Up.refl wr).alloc (.cells #[.bool true, .int .u8 sd, .int .u8 op, .bool on] 72))
            have hlen := hX.len
            have hY60 : Y.length ≤ 60 := by omega
            have hsd : wrap64 ((s : Int) + wrap64 (((wordsB Y).length : Int) / 3)) = ((s + Y.length : Nat) : Int) := said_more (by omega)
            rw [hsd]
            refine (ag_bytes hX.st hX.lk hX.out hX.way hX.words hY60).mono ?_
            rintro e w2 ⟨F2, L2, rfl, hs2, hc2, ho2⟩
            have HX := Lib.hid hX
            have HS2 := Lib.hid hs2
            have HC2 := Lib.hid hc2
            have HO2 := Lib.hid ho2
            clear hX hs2 hc2 ho2 hsd
            go_wp2_with fail
            refine (ag_out2 HS2.out HO2.out).mono ?_
            rintro e w3 ⟨A5, c5, F5, rfl, hb5, hs5⟩
            have HB5 := Lib.hid hb5
            have HS5 := Lib.hid hs5
            clear hb5 hs5
            go_wp2_with fail
            refine (ag_hear HT.out HS5.out HB5.out HX.out.mid.1 (by have := HX.out.mid.2; rw [wordsB_len]; omega)).mono ?_
            rintro e w4 ⟨A6, c6, rfl, hs6, hw6⟩
            have HF := Lib.hid (ag_close HX.out (L' := { L2 with out := [] }) ⟨HC2.out.st, HC2.out.data, HC2.out.out, HC2.out.sub, HC2.out.S, HC2.out.G⟩ rfl hs6 hw6)
            clear hs6 hw6
            go_wp2_with fail
            go_roundw
            case rel => exact ⟨j + 1, a, s + Y.length, _, A6, c6, by omega, by omega, by omega, rfl, rfl, rfl, by go_num, HF.out⟩
            case measure => simp [intOf]; omega
        · obtain rfl : j = 30 := by omega
          go_wp2_with fail
          go_meet
          case rel => exact ⟨a, s, Y, A, c, by omega, rfl, rfl, rfl, HI.out.upw ((Up.refl wr).alloc _)⟩
      · have HI := Lib.hid hI
        clear hI
        go_wp2_with fail
        go_meet
        case rel => exact ⟨a, s, Y, A, c, by omega, rfl, rfl, rfl, HI.out⟩
  case rest =>
    obtain ⟨a, s, Y, A, c, ha, rfl, rfl, rfl, hI⟩ := hcut
    have HI1 := Lib.hid hI
    clear hI
    go_wp2_with fail
    go_loopw [13, 14, 93] (fun v13 v14 i wr => ∃ (r s : Nat) (Y : List (Int × Int)) (A : Option Addr) (c : Nat), r ≤ s ∧ v13 = .int .i64 (s : Int) ∧ v14 = .slice A (wordsB Y).length c ∧ i = .int .i64 (r : Int) ∧ AgI w b bm G a s Y [] A c wr) (fun _ _ i _ => 300 - (intOf i).toNat)
    case atStart => exact ⟨0, s, Y, A, c, by omega, rfl, rfl, rfl, HI1.out⟩
    case round =>
      obtain ⟨r, s, Y, A, c, hrs, rfl, rfl, rfl, hI⟩ := hrel
      have hlen : s + Y.length ≤ 60 := by obtain ⟨_, _, _, _, _, h⟩ := hI; have := h.len; omega
      have hr300 : (r : Int) < 300 := by omega
      have HI := Lib.hid hI
      clear hI
      rcases List.eq_nil_or_concat Y with hY | ⟨Yi, yl, hY⟩
      · subst hY
        rw [show (wordsB []).length = 0 from rfl]
        obtain ⟨Lk, F, S, Yf, f, hX⟩ := HI.out
        obtain ⟨hq1, hq2⟩ := hX.rest
        have hs2a : (s : Int) ≤ 4 * (a : Int) := by have := hX.len; omega
        have haI : (a : Int) ≤ 30 := by omega
        have HU := Lib.hid hX.st.up
        have HM := Lib.hid hX.st.mac
        have HOP := Lib.hid (soptions_is hX.st.ses)
        have HZ := Lib.hid hX.st.zb
        have HOK := Lib.hid (And.intro (hX.ends.ok 0 (by omega)) (hX.ends.ok 1 (by omega)))
        have HLS := Lib.hid hX.lk.S
        have HQ1 := Lib.hid hq1
        have HQ2 := Lib.hid hq2
        clear hX hq1 hq2
        go_wp2_with fail
        refine HOP.out.mono ?_
        rintro e w2 ⟨⟨bo, rfl, hmo, -, -⟩, rfl⟩
        rw [HLS.out] at hmo
        have HMO := Lib.hid hmo
        clear hmo
        go_wp2_with fail
        refine (quiet_yes HM.out (fun i o hi _ => HQ1.out 0 i o (by omega) hi)).mono ?_
        rintro e w3 ⟨rfl, hu3⟩
        have HM3 := Lib.hid (HM.out.up hu3 HZ.out)
        have HO3 := Lib.hid (HMO.out.upw hu3)
        have HU3 := Lib.hid (HU.out.trans hu3)
        clear hu3
        go_wp2_with fail
        refine (quiet_yes HO3.out (fun i o hi _ => HQ1.out 1 i o (by omega) hi)).mono ?_
        rintro e w4 ⟨rfl, hu4⟩
        have HM4 := Lib.hid (HM3.out.upw hu4)
        have HO4 := Lib.hid (HO3.out.upw hu4)
        have HU4 := Lib.hid (HU3.out.trans hu4)
        clear hu4
        go_wp2_with fail
        go_loopw [132] (fun i wr' => ∃ j : Nat, j ≤ 48 ∧ i = .int .i64 (j : Int) ∧ wr' = w4) (fun i _ => 48 - (intOf i).toNat)
        case atStart => exact ⟨0, by omega, rfl, rfl⟩
        case round =>
          obtain ⟨j, hj, rfl, rfl⟩ := hrel
          by_cases hlt : j < 48
          · obtain ⟨e1, e2⟩ := HQ2.out j hlt
            cases t1 : (S 1 0 j == 1) <;> cases t2 : (S 1 1 j == 1)
            all_goals
              have t1' := t1
              have t2' := t2
              rw [← e2] at t1'
              rw [← e1] at t2'
              have C1 := Lib.hid (on_at (i' := 0) (o := (j : Int)) 0 j HO4.out HOK.out.2 (by omega) (by omega) rfl rfl t1)
              have C2 := Lib.hid (on_at (i' := 1) (o := (j : Int)) 1 j HM4.out HOK.out.1 (by omega) (by omega) rfl rfl t1')
              have C3 := Lib.hid (on_at (i' := 1) (o := (j : Int)) 1 j HO4.out HOK.out.2 (by omega) (by omega) rfl rfl t2)
              have C4 := Lib.hid (on_at (i' := 0) (o := (j : Int)) 0 j HM4.out HOK.out.1 (by omega) (by omega) rfl rfl t2')
              clear e1 e2 t1 t2 t1' t2'
              go_wp2_with fail
              refine C1.out.mono ?_
              rintro e w5 ⟨rfl, rfl⟩
              go_wp2_with fail
              refine C2.out.mono ?_
              rintro e w5 ⟨rfl, rfl⟩
              go_wp2_with fail
              refine C3.out.mono ?_
              rintro e w5 ⟨rfl, rfl⟩
              go_wp2_with fail
              refine C4.out.mono ?_
              rintro e w5 ⟨rfl, rfl⟩
              go_wp2_with fail
              go_roundw
              case rel => exact ⟨j + 1, by omega, by go_num, by simp⟩
              case measure => simp [intOf]; omega
          · go_wp2_with fail
            go_ret
            exact ⟨rfl, HU4.out⟩
      · have hYn : 0 < Y.length := by rw [hY]; simp
        have hne : (((wordsB Y).length : Int) == 0) = false := beq_eq_false_iff_ne.2 (by rw [wordsB_len]; omega)
        have hY60 : Y.length ≤ 60 := by omega
        have hsY : s + Y.length ≤ 1000 := by omega
        have hrY : r + 1 ≤ s + Y.length := by omega
        have hsI : (s : Int) ≤ 60 := by omega
        clear hY
        go_wp2_with fail
        obtain ⟨Lk, F, S, Yf, f, hX⟩ := HI.out
        have hsd : wrap64 ((s : Int) + wrap64 (((wordsB Y).length : Int) / 3)) = ((s + Y.length : Nat) : Int) := said_more hsY
        rw [hsd]
        refine (ag_bytes hX.st hX.lk hX.out hX.way hX.words hY60).mono ?_
        rintro e w2 ⟨F2, L2, rfl, hs2, hc2, ho2⟩
        have HX := Lib.hid hX
        have HS2 := Lib.hid hs2
        have HC2 := Lib.hid hc2
        have HO2 := Lib.hid ho2
        clear hX hs2 hc2 ho2 hsd
        go_wp2_with fail
        refine (ag_out2 HS2.out HO2.out).mono ?_
        rintro e w3 ⟨A5, c5, F5, rfl, hb5, hs5⟩
        have HB5 := Lib.hid hb5
        have HS5 := Lib.hid hs5
        clear hb5 hs5
        go_wp2_with fail
        refine (ag_hear HT.out HS5.out HB5.out HX.out.mid.1 (by have := HX.out.mid.2; rw [wordsB_len]; omega)).mono ?_
        rintro e w4 ⟨A6, c6, rfl, hs6, hw6⟩
        have HF := Lib.hid (ag_close HX.out (L' := { L2 with out := [] }) ⟨HC2.out.st, HC2.out.data, HC2.out.out, HC2.out.sub, HC2.out.S, HC2.out.G⟩ rfl hs6 hw6)
        clear hs6 hw6
        go_wp2_with fail
        go_roundw
        case rel => exact ⟨r + 1, s + Y.length, _, A6, c6, hrY, rfl, rfl, by go_num, HF.out⟩
        case measure => simp [intOf]; omega
end Go.Proofs.YtamfjgioajmnpaaGreatDoor
