/-
  A field's bytes, the program's and the reference's. No condition.
-/
import Derived.Test.YtfknakcjhlonoaaFL
import Derived.IntWalk
import Derived.Deep.DeepMust
namespace Go.Proofs.Ytfknakcjhlonoaa
open Go.RowKit
set_option linter.unusedVariables false
set_option linter.unusedSimpArgs false

/-- a field's bytes, or that it is too long -/
def bytesOf (id : Int) (l : List Int) : List Int × Int := if 8192 < 3 + l.length then ([], 3) else ([(3 + (l.length : Int)) / 256, (3 + (l.length : Int)) % 256, id] ++ l, 0)
theorem lit3 (W : World) (x y z : Int) (base : Nat) (hb : base ≤ W.heap.size) (g : Nat) (hg : g = W.heap.size) : (W.alloc (.cells #[.int .u8 x, .int .u8 y, .int .u8 z] 5)).ownsRow base 5 1 (.slice (some ⟨g, 0, none⟩) 3 3) 3 (bs [x, y, z]) := by
  subst hg
  have := World.ownsRow_lit (base := base) (size := 1) (e := 5) W #[.int .u8 x, .int .u8 y, .int .u8 z] 3 hb (by simp [maxLen]) rfl
  simpa [bs] using this

theorem bs_app (a b : List Int) : bs (a ++ b) = bs a ++ bs b := by simp [bs]
set_option maxHeartbeats 1600000 in
theorem fbytes_is {B : Nat} {A : Option Addr} {n c : Nat} {l : List Int} {id : Int} {w : World} (hid : 0 ≤ id ∧ id ≤ 255) (h : Sl B w A n c l) :
    Calls Try.prog 39 #[.agg #[.int .u8 id, .slice A n c]] w fun e w' => ∃ A' c', e = .returned (.tuple #[.slice A' (bytesOf id l).1.length c', .int .i64 (bytesOf id l).2]) ∧ Sl w.heap.size w' A' (bytesOf id l).1.length c' (bytesOf id l).1 ∧ w'.ownsRow w.heap.size 5 1 (.slice A' (bytesOf id l).1.length c') (bytesOf id l).1.length (bs (bytesOf id l).1) ∧ Up w w' := by
  have hl := h.len
  have hsm := h.small
  obtain ⟨i0, hi, hz0, hz1, hz2⟩ := info_parts info_u8
  have HS := Lib.hid h
  by_cases hn : 8192 < 3 + n
  · have hr := Lib.hid (show bytesOf id l = ([], 3) by unfold bytesOf; rw [hl, if_pos hn])
    clear h hl
    have hn' : (8192 : Int) < 3 + (n : Int) := by omega
    go_enter Try.func39, Try.ntmps39
    go_wp2
    go_ret2
    rw [hr.out]
    exact ⟨none, 0, rfl, Sl.none_, World.ownsRow_nil _ _ _ _, by (repeat (first | with_reducible exact Up.refl _ | with_reducible refine Up.alloc ?_ _ | with_reducible refine Up.drew ?_ | with_reducible refine Up.drewN ?_ _ | with_reducible refine Up.setCell ?_ (by (try simp) <;> omega) _ | with_reducible assumption | with_reducible refine Up.trans ?_ (by assumption)))⟩
  · have hr := Lib.hid (show bytesOf id l = ([(3 + (n : Int)) / 256, (3 + (n : Int)) % 256, id] ++ l, 0) by unfold bytesOf; rw [hl, if_neg hn])
    have HL := Lib.hid hl
    have HBT := Lib.hid h.bytes
    clear h hl
    have hn' : ¬ (8192 : Int) < 3 + (n : Int) := by omega
    go_enter Try.func39, Try.ntmps39
    have hn2 : 3 + n ≤ maxLen := by simp [maxLen]; omega
    go_wp2_with (at_builtin; go_must (refine wpList_app _ rfl (.tmp 18) (.tmp 20) 22 rfl w.heap.size 5 i0 _ 1 1 Try.underlying22 hi hz0 hz1 hz2 rfl (by decide) _ 3 3 (bs [(3 + (n : Int)) / 256, (3 + (n : Int)) % 256, id]) rfl (lit3 (w.alloc (.cells #[.int .u8 id, .slice A n c] 91)) _ _ _ w.heap.size (by simp) (w.heap.size + 1) (by simp)) _ A n c (bs l) rfl ((HS.out.up ((Up.refl w).alloc _)).up ((Up.refl _).alloc _)).rd (one_u8 l) hn2 (by omega) (by simp; omega) ?_); intro A1 c1 w1 hown1 hg1 hle1 hmx1 hbl1; have HO := Lib.hid hown1; clear hown1)
    go_ret2
    rw [hr.out]
    have hlen : ([(3 + (n : Int)) / 256, (3 + (n : Int)) % 256, id] ++ l).length = 3 + n := by simp [HL.out]; omega
    have ho := HO.out
    rw [← bs_app] at ho
    refine ⟨A1, c1, by rw [hlen]; rfl, ?_, by rw [hlen]; exact ho, by (refine Up.past ?_ hbl1; (repeat (first | with_reducible exact Up.refl _ | with_reducible refine Up.alloc ?_ _ | with_reducible refine Up.drew ?_ | with_reducible refine Up.drewN ?_ _ | with_reducible refine Up.setCell ?_ (by (try simp) <;> omega) _ | with_reducible assumption | with_reducible refine Up.trans ?_ (by assumption))))⟩
    rw [hlen]
    refine Sl.of_own ho hle1 hmx1 (by omega) ?_
    exact BL.app (BL.cons (by omega) (BL.cons (by omega) (BL.cons hid BL.nil))) HBT.out

end Go.Proofs.Ytfknakcjhlonoaa
