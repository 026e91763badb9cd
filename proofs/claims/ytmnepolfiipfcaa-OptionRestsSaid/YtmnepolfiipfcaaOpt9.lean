/-
  option's Quiet over a machine: whole arrays are copied. No condition.
-/
import Derived.Test.YtmnepolfiipfcaaOpt8
import Derived.Deep.MidRow
namespace Go.Proofs.Ytmnepolfiipfcaa
open Go.RowKit
set_option linter.unusedVariables false
set_option linter.unusedSimpArgs false

def sts (S : Nat → Nat → Int) (i : Nat) : List Value := (List.range 256).map fun o => Value.int .u8 (S i o)
def ags (G : Nat → Nat → Bool) (i : Nat) : List Value := (List.range 256).map fun o => Value.bool (G i o)
def mrow (S : Nat → Nat → Int) (G : Nat → Nat → Bool) (i : Nat) : List Value := sts S i ++ ags G i
def mall (S : Nat → Nat → Int) (G : Nat → Nat → Bool) : List Value := mrow S G 0 ++ mrow S G 1
theorem sts_len (S : Nat → Nat → Int) (i : Nat) : (sts S i).length = 256 := by rw [sts, List.length_map, List.length_range]
theorem ags_len (G : Nat → Nat → Bool) (i : Nat) : (ags G i).length = 256 := by rw [ags, List.length_map, List.length_range]
theorem mrow_len (S : Nat → Nat → Int) (G : Nat → Nat → Bool) (i : Nat) : (mrow S G i).length = 512 := by rw [mrow, List.length_append, sts_len, ags_len]
theorem mall_len (S : Nat → Nat → Int) (G : Nat → Nat → Bool) : (mall S G).length = 1024 := by rw [mall, List.length_append, mrow_len, mrow_len]
theorem sts_at (S : Nat → Nat → Int) (i o : Nat) (h : o < 256) : (sts S i)[o]? = some (.int .u8 (S i o)) := by rw [sts, List.getElem?_map, List.getElem?_range h]; rfl
theorem ags_at (G : Nat → Nat → Bool) (i o : Nat) (h : o < 256) : (ags G i)[o]? = some (.bool (G i o)) := by rw [ags, List.getElem?_map, List.getElem?_range h]; rfl
theorem MAt.range {w : World} {b : Nat} {S : Nat → Nat → Int} {G : Nat → Nat → Bool} (h : MAt w b S G) : w.rangeAt b 0 (mall S G) := by
  intro j v hv
  rw [Nat.zero_add]
  have hj : j < 1024 := by have := (List.getElem?_eq_some_iff.1 hv).1; rwa [mall_len] at this
  have main : ∀ i j, i < 2 → j < 512 → ∀ v, (mrow S G i)[j]? = some v → w.cell? ⟨b, 512 * i + j, none⟩ = some v := by
    intro i j hi hj v hv
    unfold mrow at hv
    by_cases hlt : j < 256
    · rw [List.getElem?_append_left (by rw [sts_len]; exact hlt), sts_at _ _ _ hlt] at hv
      exact (h i j hi hlt).1.1.trans hv
    · rw [List.getElem?_append_right (by rw [sts_len]; omega), sts_len, ags_at _ _ _ (by omega)] at hv
      have := (h i (j - 256) hi (by omega)).2.1
      rw [show 512 * i + 256 + (j - 256) = 512 * i + j by omega] at this
      exact this.trans hv
  unfold mall at hv
  by_cases hlt : j < 512
  · rw [List.getElem?_append_left (by rw [mrow_len]; exact hlt)] at hv
    have := main 0 j (by omega) hlt v hv
    rwa [Nat.mul_zero, Nat.zero_add] at this
  · rw [List.getElem?_append_right (by rw [mrow_len]; omega), mrow_len] at hv
    have := main 1 (j - 512) (by omega) (by omega) v hv
    rwa [show 512 * 1 + (j - 512) = j by omega] at this
theorem sts_one (S : Nat → Nat → Int) (i : Nat) : ∀ v ∈ sts S i, v.oneCell' = true := by
  intro v hv
  simp only [sts, List.mem_map] at hv
  obtain ⟨_, _, rfl⟩ := hv
  rfl
theorem mrow_one (S : Nat → Nat → Int) (G : Nat → Nat → Bool) (i : Nat) : ∀ v ∈ mrow S G i, v.oneCell' = true := by
  intro v hv
  rcases List.mem_append.1 hv with hv | hv
  · exact sts_one S i v hv
  · simp only [ags, List.mem_map] at hv
    obtain ⟨_, _, rfl⟩ := hv
    rfl
theorem part_agg {P : Program} {t : TypeId} {d : TypeDesc} {n : Nat} (hu : P.underlying t = some d) (hd : d.isRow = true) (hi : (P.info? t).map (·.size) = some n) (cs : Array Value) (off : Nat) (w : World) :
    (part t cs off).run P w = .ok (.agg (cs.extract off (off + n))) w := by
  have hagg : (isAgg t).run P w = .ok true w := by
    unfold isAgg
    rw [Sem.run_bind, run_underlying hu w]
    cases d <;> simp_all [TypeDesc.isRow]
  cases hq : P.info? t with
  | none => simp [hq] at hi
  | some i =>
    have hs : i.size = n := by simpa [hq] using hi
    simp [part, Sem.run_bind, hagg, sizeOf, typeInfo, hq, hs]
theorem part_one {P : Program} {t : TypeId} {d : TypeDesc} (hu : P.underlying t = some d) (hd : d.isRow = false) (cs : Array Value) (off : Nat) (v : Value) (hv : cs[off]? = some v) (w : World) :
    (part t cs off).run P w = .ok v w := by
  have hagg : (isAgg t).run P w = .ok false w := by
    unfold isAgg
    rw [Sem.run_bind, run_underlying hu w]
    cases d <;> simp_all [TypeDesc.isRow]
  simp [part, Sem.run_bind, hagg, hv]
theorem run_index_arr {P : Program} {t e : TypeId} {n size : Nat} {cs : Array Value} {v : Value} {w : World} (hu : P.underlying t = some (.array n e)) (i : Nat) (hi : i < n) (hs : (P.info? e).map (·.size) = some size) (hp : (part e cs (i * size)).run P w = .ok v w) :
    (Instr.index t (.agg cs) (.int .i64 (i : Int))).run P w = .ok v w := by
  have hi' : (i : Int) < n := by omega
  cases hq : P.info? e with
  | none => simp [hq] at hs
  | some x =>
    have hx : x.size = size := by simpa [hq] using hs
    simpa [Instr.index, run_underlying hu, asIntOf, hi', hi, go_sem, sizeOf, typeInfo, hq, hx] using hp
theorem list_cut {α : Type} (a b c : List α) : ((a ++ b ++ c).toArray.extract a.length (a.length + b.length)) = b.toArray := by
  simp
theorem idx_row (S : Nat → Nat → Int) (G : Nat → Nat → Bool) (i : Nat) (hi : i < 2) (w : World) : (Instr.index 79 (.agg (mall S G).toArray) (.int .i64 (i : Int))).run Try.prog w = .ok (.agg (mrow S G i).toArray) w := by
  have hex : (mall S G).toArray.extract (i * 512) (i * 512 + 512) = (mrow S G i).toArray := by
    obtain rfl | rfl : i = 0 ∨ i = 1 := by omega
    · have := list_cut [] (mrow S G 0) (mrow S G 1)
      rw [mrow_len] at this
      simpa [mall] using this
    · have := list_cut (mrow S G 0) (mrow S G 1) []
      rw [mrow_len, mrow_len] at this
      simpa [mall] using this
  refine run_index_arr Try.underlying79 i hi (size := 512) (by kernel_rfl) ?_
  rw [part_agg Try.underlying78 rfl (n := 512) (by kernel_rfl), hex]
theorem idx_st (S : Nat → Nat → Int) (i o : Nat) (ho : o < 256) (w : World) : (Instr.index 76 (.agg (sts S i).toArray) (.int .i64 (o : Int))).run Try.prog w = .ok (.int .u8 (S i o)) w := by
  refine run_index_arr Try.underlying76 o ho (size := 1) (by kernel_rfl) ?_
  exact part_one Try.underlying75 rfl _ _ _ (by rw [Nat.mul_one]; exact (List.getElem?_toArray ..).trans (sts_at S i o ho)) w
theorem up_setCells {w : World} {b : Nat} : ∀ (vs : List Value) (o : Nat) (x : World), Up w x → w.heap.size ≤ b → Up w (x.setCells b o vs)
  | [], _, _, h, _ => h
  | v :: r, o, x, h, hb => by
    rw [World.setCells]
    exact up_setCells r (o + 1) _ (h.setCell (p := ⟨b, o, none⟩) hb v) hb
theorem size_sets (b : Nat) : ∀ (vs : List Value) (o : Nat) (x : World), (x.setCells b o vs).heap.size = x.heap.size
  | [], _, _ => rfl
  | v :: r, o, x => by rw [World.setCells, size_sets b r]; simp [World.setCell]
theorem copy_row {P : Program} (w : World) (vs : List Value) (cs : Array Value) (t : TypeId) (hl : vs.length = cs.size) (h1 : ∀ v ∈ vs, v.oneCell' = true) :
    ∃ w1, (storeCells ⟨w.heap.size, 0, none⟩ vs).run P (w.alloc (.cells cs t)) = .ok () w1 ∧ Up w w1 ∧ w1.rangeAt w.heap.size 0 vs ∧ w.heap.size < w1.heap.size := by
  have hth : (w.alloc (.cells cs t)).there w.heap.size 0 vs.length := fun j hj => by
    rw [Nat.zero_add, World.cell?_alloc_new]
    exact ⟨by rw [Array.getElem?_eq_getElem (by omega)]; rfl, by simp⟩
  refine ⟨_, run_storeCells_cells (P := P) w.heap.size 0 vs 0 _ (fun j hj => (hth j hj).1) (fun j hj => (hth j hj).2) h1, up_setCells _ _ _ ((Up.refl w).alloc _) (Nat.le_refl _), World.rangeAt_setCells_same _ _ _ _ hth, ?_⟩
  rw [size_sets]; simp
def side0 : Array Value := (List.replicate 256 (Value.int .u8 0) ++ List.replicate 256 (Value.bool false)).toArray
theorem zero_side (w : World) : (zeroValue 78).run Try.prog w = .ok (.agg side0) w := by
  obtain ⟨i, hi, hz⟩ : ∃ i, Try.prog.info? 78 = some i ∧ i.zero = some (.agg side0) := by
    have h : (Try.prog.info? 78).bind (·.zero) = some (.agg side0) := by kernel_rfl
    cases hi : Try.prog.info? 78 with
    | none => rw [hi] at h; cases h
    | some i => exact ⟨i, rfl, by rw [hi] at h; exact h⟩
  simp [zeroValue, typeInfo, hi, hz]
theorem side0_size : side0.size = 512 := by rw [side0, List.size_toArray, List.length_append, List.length_replicate, List.length_replicate]
theorem there_new (w : World) (t : TypeId) (cs : Array Value) (n : Nat) (h : cs.size = n) : (w.alloc (.cells cs t)).there w.heap.size 0 n := by
  intro j hj
  rw [Nat.zero_add, World.cell?_alloc_new]
  exact ⟨by rw [Array.getElem?_eq_getElem (by omega)]; rfl, by simp⟩
def QuietPost (S : Nat → Nat → Int) (w : World) (e : Ending) (w' : World) : Prop := (∃ t : Bool, e = .returned (.bool t) ∧ (t = true ↔ ∀ i o, i < 2 → o < 256 → S i o ≤ 1)) ∧ Up w w'
set_option maxRecDepth 100000 in
set_option maxHeartbeats 3200000 in
theorem quiet_is (b : Nat) (S : Nat → Nat → Int) (G : Nat → Nat → Bool) (w : World) (hm : MAt w b S G) :
    Calls Try.prog 18 #[.pointer (some ⟨b, 0, none⟩)] w (QuietPost S w) := by
  have hrg := hm.range
  have hS : ∀ i o, i < 2 → o < 256 → Hid True := fun _ _ _ _ => trivial
  have HR := Lib.hid hrg
  clear hm hrg hS
  go_enter Try.func18, Try.ntmps18
  go_wp2_with (refine wpList_load_mid rfl 79 (.tmp 11) rfl b 0 rfl (mall S G) _ HR.out Try.underlying79 rfl (by rw [mall_len]; kernel_rfl) ?_)
  go_loopw [13] (fun q wr => ∃ i : Nat, i ≤ 2 ∧ q = .int .i64 (i : Int) ∧ Up w wr ∧ ∀ i' o, i' < i → o < 256 → S i' o ≤ 1) (fun q _ => 2 - (intOf q).toNat)
  case atStart => exact ⟨0, by omega, rfl, Up.refl w, fun _ _ h => by omega⟩
  case round =>
    obtain ⟨i, hi, rfl, hu, hall⟩ := hrel
    have HA := Lib.hid hall
    clear hall
    by_cases hlt : i < 2
    · have hix := fun w => idx_row S G i hlt w
      go_wp2_with fail
      rw [zero_side]
      obtain ⟨w1, hst, hu1, hr1, hz1⟩ := copy_row (P := Try.prog) wr (mrow S G i) side0 78 (by rw [mrow_len, side0_size]) (mrow_one S G i)
      have HST := Lib.hid hst
      have HU1 := Lib.hid hu1
      have hr2 : w1.rangeAt wr.heap.size 0 (sts S i) := fun j v hv => hr1 j v (by
        unfold mrow
        rw [List.getElem?_append_left (List.getElem?_eq_some_iff.1 hv).1]
        exact hv)
      have HR2 := Lib.hid hr2
      clear hst hu1 hr1 hr2 hix
      go_wp2_with fail
      rw [HST.out]
      clear HST
      go_wp2_with fail
      refine wp_load_mid 76 (.tmp 16) rfl wr.heap.size 0 rfl (sts S i) _ HR2.out Try.underlying76 rfl (by rw [sts_len]; kernel_rfl) ?_
      go_wp2_with fail
      go_loopw [6, 18] (fun _ q wq => ∃ o : Nat, o ≤ 256 ∧ q = .int .i64 (o : Int) ∧ Up w1 wq ∧ ∀ o', o' < o → S i o' ≤ 1) (fun _ q _ => 256 - (intOf q).toNat)
      case atStart => exact ⟨0, by omega, rfl, Up.refl w1, fun _ h => by omega⟩
      case round =>
        obtain ⟨o, ho, rfl, huq, hin⟩ := hrel
        have HIN := Lib.hid hin
        clear hin
        by_cases hlo : o < 256
        · have hix := fun w => idx_st S i o hlo w
          by_cases h1 : S i o ≤ 1
          · have h1' : ¬ (1 < S i o) := by omega
            go_wp2
            go_roundw
            case rel =>
              refine ⟨o + 1, by omega, by go_num, huq, fun o' h' => ?_⟩
              rcases Nat.lt_or_ge o' o with h | h
              · exact HIN.out o' h
              · obtain rfl : o' = o := by omega
                exact h1
            case measure => simp [intOf]; omega
          · have h1' : 1 < S i o := by omega
            go_wp2
            go_ret
            exact ⟨⟨false, rfl, by
              constructor
              · intro h; cases h
              · intro h; exact absurd (h i o hlt hlo) (by omega)⟩, (hu.trans HU1.out).trans huq⟩
        · obtain rfl : o = 256 := by omega
          go_wp2
          go_roundw
          case rel =>
            refine ⟨i + 1, by omega, by go_num, (hu.trans HU1.out).trans huq, fun i' o' h' ho' => ?_⟩
            rcases Nat.lt_or_ge i' i with h | h
            · exact HA.out i' o' h ho'
            · obtain rfl : i' = i := by omega
              exact HIN.out o' ho'
          case measure => simp [intOf]; omega
    · obtain rfl : i = 2 := by omega
      go_wp2
      go_ret
      exact ⟨⟨true, rfl, by simpa using HA.out⟩, hu⟩
end Go.Proofs.Ytmnepolfiipfcaa
