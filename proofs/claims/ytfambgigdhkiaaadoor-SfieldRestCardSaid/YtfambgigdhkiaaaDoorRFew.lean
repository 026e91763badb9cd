/-
  The reference's Few: an act whose texts are cut short, apart. No condition but the slices' own reach.
-/
import Derived.Test.YtfambgigdhkiaaaDoorLaw21b
import Derived.Deep.RegionWith
namespace Go.Proofs.YtfambgigdhkiaaaDoor
open Go.RowKit
set_option linter.unusedVariables false
set_option linter.unusedSimpArgs false

theorem cut_lit {A : Option Addr} {n c : Nat} {l : List Int} {w : World} (hr : Reads w w.heap.size 1 A n (bs l)) (hb : BL l) (hn : n ≤ c) (hc : c ≤ maxLen) (m : Nat) (hm : m ≤ 65536) (M : Int) (hM : M = (m : Int)) :
    Calls Tryd.prog 11 #[.slice A n c, .int .i64 M] w fun e w' => ∃ A' c', e = .returned (.slice A' (l.take m).length c') ∧ Sl w.heap.size w' A' (l.take m).length c' (l.take m) ∧ w'.ownsRow w.heap.size 5 1 (.slice A' (l.take m).length c') (l.take m).length (bs (l.take m)) ∧ Up w w' := by
  subst hM
  exact cut_sl hr hb hn hc m hm
set_option maxHeartbeats 3200000 in
theorem few_is {k cm m rq : Int} {al : Bool} {A1 A2 : Option Addr} {n1 n2 c1 c2 : Nat} {l1 l2 : List Int} {w : World} (r1 : Reads w w.heap.size 1 A1 n1 (bs l1)) (b1 : BL l1) (q1 : n1 ≤ c1) (m1 : c1 ≤ maxLen) (r2 : Reads w w.heap.size 1 A2 n2 (bs l2)) (b2 : BL l2) (q2 : n2 ≤ c2) (m2 : c2 ≤ maxLen) :
    Calls Tryd.prog 9 #[.agg #[.int .i64 k, .int .i64 cm, .int .i64 m, .bool al, .int .u8 rq, .slice A1 n1 c1, .slice A2 n2 c2]] w fun e w' => ∃ A3 c3 A4 c4, e = .returned (.agg #[.int .i64 k, .int .i64 cm, .int .i64 m, .bool al, .int .u8 rq, .slice A3 (l1.take 20).length c3, .slice A4 (l2.take 300).length c4]) ∧ Sl w.heap.size w' A3 (l1.take 20).length c3 (l1.take 20) ∧ Sl w.heap.size w' A4 (l2.take 300).length c4 (l2.take 300) ∧ Up w w' := by
  have HC1 := Lib.hid (fun w' (hu : Up w w') => cut_lit (r1.up hu) b1 q1 m1 20 (by omega) 20 rfl)
  have HC2 := Lib.hid (fun w' (hu : Up w w') => cut_lit (r2.up hu) b2 q2 m2 300 (by omega) 300 rfl)
  clear r1 b1 q1 m1 r2 b2 q2 m2
  obtain ⟨d1, hd1⟩ : ∃ d, l1.take 20 = d := ⟨_, rfl⟩
  obtain ⟨d2, hd2⟩ : ∃ d, l2.take 300 = d := ⟨_, rfl⟩
  rw [hd1] at HC1 ⊢
  rw [hd2] at HC2 ⊢
  clear hd1 hd2
  obtain ⟨W0, hW0⟩ : ∃ W0, W0 = ((w.alloc (.cells #[.int .i64 k, .int .i64 cm, .int .i64 m, .bool al, .int .u8 rq, .slice A1 n1 c1, .slice A2 n2 c2] 26)).alloc (.cells #[.int .i64 0, .int .i64 0, .int .i64 0, .bool false, .int .u8 0, .slice none 0 0, .slice none 0 0] 26)).drew := ⟨_, rfl⟩
  have U0 := Lib.hid (show Up w W0 from hW0 ▸ (((Up.refl w).alloc _).alloc _).drew)
  have HZ := Lib.hid hW0
  clear hW0
  go_enter Tryd.func9, Tryd.ntmps9
  go_wp2
  go_region_with (first | (go_at_call 11; with_reducible refine (HC1.out _ ((((Up.refl w).alloc _).alloc _).drew)).mono ?_; rintro e w2 ⟨A3, c3, rfl, s3, -, u3⟩; obtain ⟨ka, fa⟩ := u3.at_ w.heap.size (by (try simp) <;> omega); obtain ⟨kb, fb⟩ := u3.at_ (w.heap.size + 1) (by (try simp) <;> omega); have hz2 := u3.size; (try simp at hz2); have y0 : w.heap.size < w2.heap.size := (by omega); have y1 : w.heap.size + 1 < w2.heap.size := (by omega); have S3 := Lib.hid s3; have U3 := Lib.hid (show Up w w2 from ((((Up.refl w).alloc _).alloc _).drew).trans u3); clear s3 u3) | (go_at_call 11; with_reducible refine (HC2.out _ U3.out).mono ?_; rintro e w4 ⟨A4, c4, rfl, s4, -, u4⟩; obtain ⟨la, ga⟩ := u4.at_ w.heap.size y0; obtain ⟨lb, gb⟩ := u4.at_ (w.heap.size + 1) y1; have hz4 := u4.size; have x0 : w.heap.size < w4.heap.size := (by omega); have x1 : w.heap.size + 1 < w4.heap.size := (by omega); have S4 := Lib.hid s4; have U4 := Lib.hid u4; clear s4 u4))
  all_goals
    go_wp2
    refine bodyPost_ret (v := .agg #[.int .i64 k, .int .i64 cm, .int .i64 m, .bool al, .int .u8 rq, .slice A3 d1.length c3, .slice A4 d2.length c4]) (by simp [results, Tryd.results9, go_sem, ka, kb, la, lb, y0, y1, x0, x1]) rfl ⟨A3, c3, A4, c4, rfl, ?_, ?_, by have hU := U3.out.trans U4.out; (repeat (first | with_reducible exact Up.refl _ | with_reducible refine Up.alloc ?_ _ | with_reducible refine Up.drew ?_ | with_reducible refine Up.drewN ?_ _ | with_reducible refine Up.setCell ?_ (by (try simp) <;> omega) _ | with_reducible assumption | with_reducible refine Up.trans ?_ (by assumption)))⟩
    · refine Sl.low (B := w.heap.size + 1 + 1) ?_ (by omega)
      repeat with_reducible refine Sl.set1 ?_ (by omega) _ _
      have := S3.out.up U4.out
      simpa using this
    · refine Sl.low (B := w.heap.size + 1 + 1) ?_ (by omega)
      repeat with_reducible refine Sl.set1 ?_ (by omega) _ _
      exact S4.out.low (by omega)
end Go.Proofs.YtfambgigdhkiaaaDoor
