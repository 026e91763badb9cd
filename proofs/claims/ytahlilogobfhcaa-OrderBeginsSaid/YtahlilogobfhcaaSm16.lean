/-
  The document's Same of two orders that are alike. Of lists of at most 65536 pairs.
-/
import Derived.Test.YtahlilogobfhcaaBk16
namespace Go.Proofs.Ytahlilogobfhcaa
open Go.RowKit
set_option linter.unusedVariables false
set_option linter.unusedSimpArgs false

set_option maxHeartbeats 3200000 in
theorem rsame_is {B1 B2 : Nat} {k a c : Int} {g : Bool} {f : Int} {A1 A2 : Option Addr} {np c1 c2 : Nat} {T1 T2 : Option Addr} {nt d1 d2 : Nat} {L : List (Int × Int)} {T : List Int} {w : World} (h1 : Reads w w.heap.size 2 A1 np (ps L)) (h2 : Reads w w.heap.size 2 A2 np (ps L)) (hn : np ≤ 65536) (t1 : Sl B1 w T1 nt d1 T) (t2 : Sl B2 w T2 nt d2 T) :
    Calls Try.prog 13 #[.agg #[.int .i64 k, .int .i64 a, .int .u8 c, .bool g, .int .u8 f, .slice A1 np c1, .slice T1 nt d1], .agg #[.int .i64 k, .int .i64 a, .int .u8 c, .bool g, .int .u8 f, .slice A2 np c2, .slice T2 nt d2]] w fun e w' => e = .returned (.bool true) ∧ Up w w' := by
  have HS := Lib.hid (fun W (hu : Up w W) => same_sl (t1.up hu) (t2.up hu))
  rw [show decide (T = T) = true by simp] at HS
  have HR1 := Lib.hid h1
  have HR2 := Lib.hid h2
  have HF1 := Lib.hid (fun h : 0 < np => h1.form h)
  have HF2 := Lib.hid (fun h : 0 < np => h2.form h)
  have hg : (g == g) = true := by simp
  have hg2 : (g != g) = false := by simp
  have hk2 : (k != k) = false := by simp
  have ha2 : (a != a) = false := by simp
  have hc2 : (c != c) = false := by simp
  have hf2 : (f != f) = false := by simp
  clear h1 h2 t1 t2
  go_enter Try.func13, Try.ntmps13
  go_wp2_with fail
  refine (HS.out _ (by (repeat (first | with_reducible exact Up.refl _ | with_reducible refine Up.alloc ?_ _ | with_reducible refine Up.drew ?_ | with_reducible refine Up.drewN ?_ _ | with_reducible refine Up.setCell ?_ (by (try simp) <;> omega) _ | with_reducible assumption | with_reducible refine Up.trans ?_ (by assumption))))).mono ?_
  rintro e w1 ⟨rfl, rfl⟩
  go_wp2_with fail
  go_loopw [59] (fun i wr => ∃ j : Nat, j ≤ np ∧ i = .int .i64 (j : Int) ∧ Up w wr ∧ wr.cell? ⟨w.heap.size, 5, none⟩ = some (.slice A1 np c1) ∧ wr.cell? ⟨w.heap.size + 1, 5, none⟩ = some (.slice A2 np c2)) (fun i _ => np - (intOf i).toNat)
  case atStart => exact ⟨0, by omega, rfl, by (repeat (first | with_reducible exact Up.refl _ | with_reducible refine Up.alloc ?_ _ | with_reducible refine Up.drew ?_ | with_reducible refine Up.drewN ?_ _ | with_reducible refine Up.setCell ?_ (by (try simp) <;> omega) _ | with_reducible assumption | with_reducible refine Up.trans ?_ (by assumption))), by simp [go_sem], by simp [go_sem]⟩
  case round =>
    obtain ⟨j, hj, rfl, hup, s5, s6⟩ := hrel
    have HU := Lib.hid hup
    by_cases hlt : j < np
    · obtain ⟨b1, o1, rfl, hb1⟩ := HF1.out (by omega)
      obtain ⟨b2, o2, rfl, hb2⟩ := HF2.out (by omega)
      obtain ⟨ca, cb, _⟩ := reads_ps (HR1.out.up hup) j hlt
      obtain ⟨ca', cb', _⟩ := reads_ps (HR2.out.up hup) j hlt
      have q1 : (j : Int) < (np : Int) := by omega
      have z1 := cell_lt s5
      have z2 := cell_lt s6
      have zz := hup.size
      simp only at z1 z2
      have e1 : ((L.getD j (0, 0)).1 == (L.getD j (0, 0)).1) = true := by simp
      have e2 : ((L.getD j (0, 0)).2 == (L.getD j (0, 0)).2) = true := by simp
      clear hup
      generalize L.getD j (0, 0) = p at *
      obtain ⟨p1, p2⟩ := p
      dsimp only at ca cb ca' cb' e1 e2
      go_wp2_with fail
      go_quiet (fail)
      go_wp2
      go_roundw
      case rel => exact ⟨j + 1, by omega, by go_num, HU.out.drewN _, s5, s6⟩
      case measure => simp [intOf]; omega
    · obtain rfl : j = np := by omega
      clear hup
      go_wp2_with fail
      go_ret
      exact ⟨rfl, HU.out⟩
end Go.Proofs.Ytahlilogobfhcaa
