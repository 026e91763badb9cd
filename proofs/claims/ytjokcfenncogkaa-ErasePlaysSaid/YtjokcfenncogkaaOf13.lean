/-
  field's Of and Open, the document's Open; two field attributes alike. No condition.
-/
import Derived.Test.YtjokcfenncogkaaRf13b
namespace Go.Proofs.Ytjokcfenncogkaa
open Go.RowKit
set_option linter.unusedVariables false
set_option linter.unusedSimpArgs false

set_option maxHeartbeats 1600000 in
theorem eqF0 (p0 p1 p3 q0 q1 q3 : Bool) (p2 q2 : Int) (w : World) :
    (Op.equalIn 10000 69 (.agg #[.bool p0, .bool p1, .int .i64 p2, .bool p3]) (.agg #[.bool q0, .bool q1, .int .i64 q2, .bool q3])).run Try.prog w = .ok (p0 == q0 && (p1 == q1 && (p2 == q2 && p3 == q3))) w := by
  have u5 := Try.underlying3
  have u4 := Try.underlying4
  have a5 := Try.isAgg3
  have a4 := Try.isAgg4
  have z5 := Try.sizeOf3
  have z4 := Try.sizeOf4
  rw [show (10000 : Nat) = 9999 + 1 from rfl, Op.equalIn]
  simp only [Sem.run_bind, run_underlying Try.underlying69, Result.andThen_ok]
  go_simp
  by_cases e0 : p0 = q0 <;> by_cases e1 : p1 = q1 <;> by_cases e2 : p2 = q2 <;> by_cases e3 : p3 = q3 <;> simp [e0, e1, e2, e3]
theorem eqF (f : Int) (w : World) : (Op.equalIn 10000 69 (.agg #[.bool (fP f), .bool (fN f), .int .i64 (fD f), .bool (fM f)]) (.agg #[.bool (fP f), .bool (fN f), .int .i64 (fD f), .bool (fM f)])).run Try.prog w = .ok true w := by
  rw [eqF0]; simp
theorem start_range {X : Spc} (ok : X.Ok) (n : Int) : X.start n = -1 ∨ (0 ≤ X.start n ∧ X.start n < X.r * X.c) := by
  unfold Spc.start
  cases X.back n with
  | none => exact .inl rfl
  | some d => exact .inr ⟨Int.emod_nonneg _ (by have := Spc.pos ok; omega), Int.emod_lt_of_pos _ (Spc.pos ok)⟩
/-- may one write there? -/
def Spc.open_ (X : Spc) (n : Int) : Bool := !X.isA n && (decide (X.start n < 0) || !fP (X.at_ (X.start n)).fa)
set_option maxHeartbeats 1600000 in
theorem fof_some {p g : Nat} {X : Spc} {w : World} (n : Int) (hs : SAt w p g X) (ok : X.Ok) (h : 0 ≤ X.start n) {f : Int} (hf : (X.at_ (X.start n)).fa = f) :
    Calls Try.prog 49 #[.pointer (some ⟨p, 0, none⟩), .int .i64 n] w fun e w' => e = .returned (.tuple #[.agg #[.bool (fP f), .bool (fN f), .int .i64 (fD f), .bool (fM f)], .bool true]) ∧ Up w w' := by
  have HS := Lib.hid hs
  have fC := fldC2
  have H1 := Lib.hid (fun W (h' : SAt W p g X) => fstart_is n h' ok)
  obtain ⟨a, ha⟩ : ∃ a, X.start n = a := ⟨_, rfl⟩
  rw [ha] at H1 h hf
  have hfa := Spc.fa_at ok a
  obtain ⟨d, hd⟩ : ∃ d, X.at_ a = d := ⟨_, rfl⟩
  have H2 := Lib.hid (fun W (h' : SAt W p g X) => sat_op a h' ok hd)
  rw [hd] at hf hfa
  rw [hf] at hfa H2
  have H3 := Lib.hid (fun W => of_any f W hfa.1 hfa.2)
  have hna : (a == -1) = false := by simp; omega
  clear hs ok ha hd hf hfa
  go_enter Try.func49, Try.ntmps49
  go_wp2_with fail
  refine (H1.out _ (HS.out.up ((Up.refl w).alloc _))).mono ?_
  rintro e w1 ⟨rfl, hu1⟩
  have hb := hu1.at_ w.heap.size (by simp)
  have k0 := (hb.1 0).trans (by simp [go_sem] : _ = some (.bool false))
  have k1 := (hb.1 1).trans (by simp [go_sem] : _ = some (.bool false))
  have k2 := (hb.1 2).trans (by simp [go_sem] : _ = some (.int .i64 0))
  have k3 := (hb.1 3).trans (by simp [go_sem] : _ = some (.bool false))
  have f0 := (hb.2 0).trans (by simp [go_sem] : _ = false)
  have f1 := (hb.2 1).trans (by simp [go_sem] : _ = false)
  have f2 := (hb.2 2).trans (by simp [go_sem] : _ = false)
  have f3 := (hb.2 3).trans (by simp [go_sem] : _ = false)
  have zk : w.heap.size < w1.heap.size := by have := hu1.size; simp at this; omega
  have HU1 := Lib.hid (((Up.refl w).alloc _).trans hu1)
  clear hb hu1
  go_wp2_with fail
  refine (H2.out _ (HS.out.up HU1.out)).mono ?_
  rintro e w2 ⟨rfl, hu2⟩
  have HU2 := Lib.hid (HU1.out.trans hu2)
  have z2 := hu2.size
  have hb2 := hu2.at_ w.heap.size zk
  clear hu2
  go_wp2_with fail
  refine (H3.out _).mono ?_
  rintro e w3 ⟨rfl, hu3⟩
  have hb3 := hu3.at_ w.heap.size (by omega)
  have K0 := (hb3.1 0).trans ((hb2.1 0).trans k0)
  have K1 := (hb3.1 1).trans ((hb2.1 1).trans k1)
  have K2 := (hb3.1 2).trans ((hb2.1 2).trans k2)
  have K3 := (hb3.1 3).trans ((hb2.1 3).trans k3)
  have F0 := (hb3.2 0).trans ((hb2.2 0).trans f0)
  have F1 := (hb3.2 1).trans ((hb2.2 1).trans f1)
  have F2 := (hb3.2 2).trans ((hb2.2 2).trans f2)
  have F3 := (hb3.2 3).trans ((hb2.2 3).trans f3)
  have zk3 : w.heap.size < w3.heap.size := by have := hu3.size; omega
  have HU3 := Lib.hid (HU2.out.trans hu3)
  clear hb3 hb2 hu3
  go_wp2_with fail
  exact bodyPost_ret (v := .tuple #[.agg #[.bool (fP f), .bool (fN f), .int .i64 (fD f), .bool (fM f)], .bool true]) (by simp [results, Try.results49, go_sem, K0, K1, K2, K3]) rfl ⟨rfl, (((HU3.out.setCell (by simp) _).setCell (by simp) _).setCell (by simp) _).setCell (by simp) _⟩
theorem fof_none {p g : Nat} {X : Spc} {w : World} (n : Int) (hs : SAt w p g X) (ok : X.Ok) (h : X.start n = -1) :
    Calls Try.prog 49 #[.pointer (some ⟨p, 0, none⟩), .int .i64 n] w fun e w' => e = .returned (.tuple #[.agg #[.bool false, .bool false, .int .i64 0, .bool false], .bool false]) ∧ Up w w' := by
  have HS := Lib.hid hs
  have H1 := Lib.hid (fun W (h' : SAt W p g X) => fstart_is n h' ok)
  rw [h] at H1
  clear hs ok h
  go_enter Try.func49, Try.ntmps49
  go_wp2_with fail
  refine (H1.out _ (HS.out.up ((Up.refl w).alloc _))).mono ?_
  rintro e w1 ⟨rfl, hu1⟩
  have hb := hu1.at_ w.heap.size (by simp)
  have k0 := (hb.1 0).trans (by simp [go_sem] : _ = some (.bool false))
  have k1 := (hb.1 1).trans (by simp [go_sem] : _ = some (.bool false))
  have k2 := (hb.1 2).trans (by simp [go_sem] : _ = some (.int .i64 0))
  have k3 := (hb.1 3).trans (by simp [go_sem] : _ = some (.bool false))
  have f0 := (hb.2 0).trans (by simp [go_sem] : _ = false)
  have f1 := (hb.2 1).trans (by simp [go_sem] : _ = false)
  have f2 := (hb.2 2).trans (by simp [go_sem] : _ = false)
  have f3 := (hb.2 3).trans (by simp [go_sem] : _ = false)
  have zk : w.heap.size < w1.heap.size := by have := hu1.size; simp at this; omega
  have HU1 := Lib.hid (((Up.refl w).alloc _).trans hu1)
  clear hb hu1
  go_wp2_with fail
  exact bodyPost_ret (v := .tuple #[.agg #[.bool false, .bool false, .int .i64 0, .bool false], .bool false]) (by simp [results, Try.results49, go_sem, k0, k1, k2, k3]) rfl ⟨rfl, (((HU1.out.setCell (by simp) _).setCell (by simp) _).setCell (by simp) _).setCell (by simp) _⟩
set_option maxHeartbeats 1600000 in
theorem fopen_is {p g : Nat} {X : Spc} {w : World} (n : Int) (hs : SAt w p g X) (ok : X.Ok) :
    Calls Try.prog 52 #[.pointer (some ⟨p, 0, none⟩), .int .i64 n] w fun e w' => e = .returned (.bool (X.open_ n)) ∧ Up w w' := by
  have HS := Lib.hid hs
  have fC := fldC1
  obtain ⟨d, hd⟩ : ∃ d, X.at_ n = d := ⟨_, rfl⟩
  have H2 := Lib.hid (fun W (h' : SAt W p g X) => sat_op n h' ok hd)
  have hO : X.open_ n = (!d.at_ && (decide (X.start n < 0) || !fP (X.at_ (X.start n)).fa)) := by unfold Spc.open_ Spc.isA; rw [hd]
  rcases start_range ok n with hst | ⟨hst, -⟩
  · have H1 := Lib.hid (fof_none n hs ok hst)
    have hO2 : X.open_ n = !d.at_ := by rw [hO, hst]; simp
    rw [hO2]
    clear hs ok hd hst hO hO2
    obtain ⟨dch, da, dfa, dhi, dco, dse⟩ := d
    simp only at *
    cases da
    all_goals
      go_enter Try.func52, Try.ntmps52
      go_wp2_with fail
      refine H1.out.mono ?_
      rintro e w1 ⟨rfl, hu1⟩
      have HU1 := Lib.hid hu1
      clear hu1
      go_wp2_with fail
      refine (H2.out _ (HS.out.up (HU1.out.alloc _))).mono ?_
      rintro e w2 ⟨rfl, hu2⟩
      have HU2 := Lib.hid ((HU1.out.alloc _).trans hu2)
      clear hu2
      go_wp2_with fail
      go_ret
      exact ⟨rfl, HU2.out⟩
  · obtain ⟨f, hf⟩ : ∃ f, (X.at_ (X.start n)).fa = f := ⟨_, rfl⟩
    have H1 := Lib.hid (fof_some n hs ok hst hf)
    have hO2 : X.open_ n = (!d.at_ && !fP f) := by rw [hO, hf]; have : ¬ X.start n < 0 := by omega
                                                   simp [this]
    rw [hO2]
    clear hs ok hd hst hO hO2 hf
    obtain ⟨dch, da, dfa, dhi, dco, dse⟩ := d
    simp only at *
    generalize fP f = b0 at *
    generalize fN f = b1 at *
    generalize fD f = b2 at *
    generalize fM f = b3 at *
    cases da
    · go_enter Try.func52, Try.ntmps52
      go_wp2_with fail
      refine H1.out.mono ?_
      rintro e w1 ⟨rfl, hu1⟩
      have HU1 := Lib.hid hu1
      have z1 := hu1.size
      clear hu1
      go_wp2_with fail
      refine (H2.out _ (HS.out.up (HU1.out.alloc _))).mono ?_
      rintro e w2 ⟨rfl, hu2⟩
      have hb := hu2.at_ w1.heap.size (by simp)
      have k0 := (hb.1 0).trans (by simp [go_sem] : _ = some (.bool b0))
      have HU2 := Lib.hid ((HU1.out.alloc _).trans hu2)
      clear hu2 hb
      go_wp2_with fail
      go_ret
      exact ⟨rfl, HU2.out⟩
    · go_enter Try.func52, Try.ntmps52
      go_wp2_with fail
      refine H1.out.mono ?_
      rintro e w1 ⟨rfl, hu1⟩
      have HU1 := Lib.hid hu1
      clear hu1
      go_wp2_with fail
      refine (H2.out _ (HS.out.up (HU1.out.alloc _))).mono ?_
      rintro e w2 ⟨rfl, hu2⟩
      have HU2 := Lib.hid ((HU1.out.alloc _).trans hu2)
      clear hu2
      go_wp2_with fail
      go_ret
      exact ⟨rfl, HU2.out⟩
end Go.Proofs.Ytjokcfenncogkaa
