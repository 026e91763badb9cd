/-
  What attr's Diff computes. No condition.
-/
import Derived.Test.YtockighgdkebaaaAttr8
import Derived.Deep.RegionHeld3
namespace Go.Proofs.Ytockighgdkebaaa
open Go.RowKit
set_option linter.unusedVariables false
set_option linter.unusedSimpArgs false

structure LookAt (w : World) (g : Nat) (hi co se : Int) : Prop where
  x0 : w.cell? ⟨g, 0, none⟩ = some (.int .u8 65)
  x1 : w.cell? ⟨g, 1, none⟩ = some (.int .u8 hi)
  x2 : w.cell? ⟨g, 2, none⟩ = some (.int .u8 66)
  x3 : w.cell? ⟨g, 3, none⟩ = some (.int .u8 co)
  x4 : w.cell? ⟨g, 4, none⟩ = some (.int .u8 67)
  x5 : w.cell? ⟨g, 5, none⟩ = some (.int .u8 se)
theorem eqA (h1 c1 s1 h2 c2 s2 : Int) (w : World) : (Op.equalIn 10000 74 (.agg #[.int .u8 65, .int .u8 h1, .int .u8 66, .int .u8 c1, .int .u8 67, .int .u8 s1]) (.agg #[.int .u8 65, .int .u8 h2, .int .u8 66, .int .u8 c2, .int .u8 67, .int .u8 s2])).run Try.prog w = .ok (h1 == h2 && (c1 == c2 && s1 == s2)) w := by
  have u3 := Try.underlying5
  have a3 := Try.isAgg5
  have z3 := Try.sizeOf5
  have z4 := Try.sizeOf40
  have a4 := Try.isAgg40
  rw [show (10000 : Nat) = 9999 + 1 from rfl, Op.equalIn]
  simp only [Sem.run_bind, run_underlying Try.underlying74, Result.andThen_ok]
  simp only [Std.Legacy.Range.forIn_eq_forIn_range', Std.Legacy.Range.size, Nat.sub_zero, Nat.add_sub_cancel, Nat.div_one, List.range'_succ, List.range'_zero, List.forIn_cons, List.forIn_nil]
  go_simp
  by_cases e1 : h1 = h2 <;> by_cases e2 : c1 = c2 <;> by_cases e3 : s1 = s2 <;> simp [e1, e2, e3]
theorem use_at {W V : World} (hu : Up W V) (n : Nat) {G : Prop} (hn : n < W.heap.size) (h : (∀ o, V.cell? ⟨n, o, none⟩ = W.cell? ⟨n, o, none⟩) → (∀ o, V.frozen? ⟨n, o, none⟩ = W.frozen? ⟨n, o, none⟩) → n < V.heap.size → G) : G :=
  h (hu.at_ n hn).1 (hu.at_ n hn).2 (Nat.lt_of_lt_of_le hn hu.size)
theorem LookAt.up {B : Nat} {w w' : World} {g : Nat} {hi co se : Int} (h : LookAt w g hi co se) (hu : Below B w w') (hg : g < B) : LookAt w' g hi co se :=
  ⟨by rw [hu.cell (p := ⟨g, 0, none⟩) hg]; exact h.x0, by rw [hu.cell (p := ⟨g, 1, none⟩) hg]; exact h.x1, by rw [hu.cell (p := ⟨g, 2, none⟩) hg]; exact h.x2, by rw [hu.cell (p := ⟨g, 3, none⟩) hg]; exact h.x3, by rw [hu.cell (p := ⟨g, 4, none⟩) hg]; exact h.x4, by rw [hu.cell (p := ⟨g, 5, none⟩) hg]; exact h.x5⟩

set_option maxHeartbeats 6400000 in
theorem diff_is (ch1 fa1 h1 c1 s1 ch2 fa2 h2 c2 s2 : Int) (a1 a2 : Bool) (w : World) :
    Calls Try.prog 33 #[.agg #[.int .u8 ch1, .bool a1, .int .u8 fa1, .int .u8 h1, .int .u8 c1, .int .u8 s1], .agg #[.int .u8 ch2, .bool a2, .int .u8 fa2, .int .u8 h2, .int .u8 c2, .int .u8 s2]] w fun e w' => ∃ A c, e = .returned (.slice A (diffL h1 c1 s1 h2 c2 s2).length c) ∧ w'.ownsRow w.heap.size 40 2 (.slice A (diffL h1 c1 s1 h2 c2 s2).length c) (diffL h1 c1 s1 h2 c2 s2).length (ps (diffL h1 c1 s1 h2 c2 s2)) ∧ (diffL h1 c1 s1 h2 c2 s2).length ≤ c ∧ c ≤ maxLen ∧ Up w w' := by
  obtain ⟨i0, hi0, hz0, hz1, hz2⟩ := info_parts info_ap
  obtain ⟨R, hR⟩ : ∃ R, diffL h1 c1 s1 h2 c2 s2 = R := ⟨_, rfl⟩
  rw [hR]
  have HR := Lib.hid (show R = dJ (h1 != h2) (c1 != c2) (s1 != s2) h2 c2 s2 3 from hR.symm)
  clear hR
  go_enter Try.func33, Try.ntmps33
  go_upto_region 2 with (fail)
  have UQ : Up w ((w.alloc (.cells #[.int .u8 ch1, .bool a1, .int .u8 fa1, .int .u8 h1, .int .u8 c1, .int .u8 s1] 38)).alloc (.cells #[.int .u8 ch2, .bool a2, .int .u8 fa2, .int .u8 h2, .int .u8 c2, .int .u8 s2] 38)) := by (repeat (first | with_reducible exact Up.refl _ | with_reducible refine Up.alloc ?_ _ | with_reducible refine Up.drew ?_ | with_reducible refine Up.drewN ?_ _ | with_reducible refine Up.setCell ?_ (by (try simp) <;> omega) _ | with_reducible assumption | with_reducible refine Up.trans ?_ (by assumption)))
  have z1 : w.heap.size < ((w.alloc (.cells #[.int .u8 ch1, .bool a1, .int .u8 fa1, .int .u8 h1, .int .u8 c1, .int .u8 s1] 38)).alloc (.cells #[.int .u8 ch2, .bool a2, .int .u8 fa2, .int .u8 h2, .int .u8 c2, .int .u8 s2] 38)).heap.size := by simp; omega
  have z2 : w.heap.size + 1 < ((w.alloc (.cells #[.int .u8 ch1, .bool a1, .int .u8 fa1, .int .u8 h1, .int .u8 c1, .int .u8 s1] 38)).alloc (.cells #[.int .u8 ch2, .bool a2, .int .u8 fa2, .int .u8 h2, .int .u8 c2, .int .u8 s2] 38)).heap.size := by simp
  have SQ : ((w.alloc (.cells #[.int .u8 ch1, .bool a1, .int .u8 fa1, .int .u8 h1, .int .u8 c1, .int .u8 s1] 38)).alloc (.cells #[.int .u8 ch2, .bool a2, .int .u8 fa2, .int .u8 h2, .int .u8 c2, .int .u8 s2] 38)).cell? ⟨w.heap.size, 0, none⟩ = some (.int .u8 ch1) ∧ ((w.alloc (.cells #[.int .u8 ch1, .bool a1, .int .u8 fa1, .int .u8 h1, .int .u8 c1, .int .u8 s1] 38)).alloc (.cells #[.int .u8 ch2, .bool a2, .int .u8 fa2, .int .u8 h2, .int .u8 c2, .int .u8 s2] 38)).cell? ⟨w.heap.size, 1, none⟩ = some (.bool a1) ∧ ((w.alloc (.cells #[.int .u8 ch1, .bool a1, .int .u8 fa1, .int .u8 h1, .int .u8 c1, .int .u8 s1] 38)).alloc (.cells #[.int .u8 ch2, .bool a2, .int .u8 fa2, .int .u8 h2, .int .u8 c2, .int .u8 s2] 38)).cell? ⟨w.heap.size, 2, none⟩ = some (.int .u8 fa1) ∧ ((w.alloc (.cells #[.int .u8 ch1, .bool a1, .int .u8 fa1, .int .u8 h1, .int .u8 c1, .int .u8 s1] 38)).alloc (.cells #[.int .u8 ch2, .bool a2, .int .u8 fa2, .int .u8 h2, .int .u8 c2, .int .u8 s2] 38)).cell? ⟨w.heap.size, 3, none⟩ = some (.int .u8 h1) ∧ ((w.alloc (.cells #[.int .u8 ch1, .bool a1, .int .u8 fa1, .int .u8 h1, .int .u8 c1, .int .u8 s1] 38)).alloc (.cells #[.int .u8 ch2, .bool a2, .int .u8 fa2, .int .u8 h2, .int .u8 c2, .int .u8 s2] 38)).cell? ⟨w.heap.size, 4, none⟩ = some (.int .u8 c1) ∧ ((w.alloc (.cells #[.int .u8 ch1, .bool a1, .int .u8 fa1, .int .u8 h1, .int .u8 c1, .int .u8 s1] 38)).alloc (.cells #[.int .u8 ch2, .bool a2, .int .u8 fa2, .int .u8 h2, .int .u8 c2, .int .u8 s2] 38)).cell? ⟨w.heap.size, 5, none⟩ = some (.int .u8 s1) ∧ ((w.alloc (.cells #[.int .u8 ch1, .bool a1, .int .u8 fa1, .int .u8 h1, .int .u8 c1, .int .u8 s1] 38)).alloc (.cells #[.int .u8 ch2, .bool a2, .int .u8 fa2, .int .u8 h2, .int .u8 c2, .int .u8 s2] 38)).cell? ⟨w.heap.size + 1, 0, none⟩ = some (.int .u8 ch2) ∧ ((w.alloc (.cells #[.int .u8 ch1, .bool a1, .int .u8 fa1, .int .u8 h1, .int .u8 c1, .int .u8 s1] 38)).alloc (.cells #[.int .u8 ch2, .bool a2, .int .u8 fa2, .int .u8 h2, .int .u8 c2, .int .u8 s2] 38)).cell? ⟨w.heap.size + 1, 1, none⟩ = some (.bool a2) ∧ ((w.alloc (.cells #[.int .u8 ch1, .bool a1, .int .u8 fa1, .int .u8 h1, .int .u8 c1, .int .u8 s1] 38)).alloc (.cells #[.int .u8 ch2, .bool a2, .int .u8 fa2, .int .u8 h2, .int .u8 c2, .int .u8 s2] 38)).cell? ⟨w.heap.size + 1, 2, none⟩ = some (.int .u8 fa2) ∧ ((w.alloc (.cells #[.int .u8 ch1, .bool a1, .int .u8 fa1, .int .u8 h1, .int .u8 c1, .int .u8 s1] 38)).alloc (.cells #[.int .u8 ch2, .bool a2, .int .u8 fa2, .int .u8 h2, .int .u8 c2, .int .u8 s2] 38)).cell? ⟨w.heap.size + 1, 3, none⟩ = some (.int .u8 h2) ∧ ((w.alloc (.cells #[.int .u8 ch1, .bool a1, .int .u8 fa1, .int .u8 h1, .int .u8 c1, .int .u8 s1] 38)).alloc (.cells #[.int .u8 ch2, .bool a2, .int .u8 fa2, .int .u8 h2, .int .u8 c2, .int .u8 s2] 38)).cell? ⟨w.heap.size + 1, 4, none⟩ = some (.int .u8 c2) ∧ ((w.alloc (.cells #[.int .u8 ch1, .bool a1, .int .u8 fa1, .int .u8 h1, .int .u8 c1, .int .u8 s1] 38)).alloc (.cells #[.int .u8 ch2, .bool a2, .int .u8 fa2, .int .u8 h2, .int .u8 c2, .int .u8 s2] 38)).cell? ⟨w.heap.size + 1, 5, none⟩ = some (.int .u8 s2) := by
    refine ⟨?_, ?_, ?_, ?_, ?_, ?_, ?_, ?_, ?_, ?_, ?_, ?_⟩ <;> go_simp
  generalize ((w.alloc (.cells #[.int .u8 ch1, .bool a1, .int .u8 fa1, .int .u8 h1, .int .u8 c1, .int .u8 s1] 38)).alloc (.cells #[.int .u8 ch2, .bool a2, .int .u8 fa2, .int .u8 h2, .int .u8 c2, .int .u8 s2] 38)) = wq at UQ z1 z2 SQ ⊢
  have TK := Lib.hid (show ∀ W, Up wq W → W.cell? ⟨w.heap.size, 0, none⟩ = some (.int .u8 ch1) ∧ W.cell? ⟨w.heap.size, 1, none⟩ = some (.bool a1) ∧ W.cell? ⟨w.heap.size, 2, none⟩ = some (.int .u8 fa1) ∧ W.cell? ⟨w.heap.size, 3, none⟩ = some (.int .u8 h1) ∧ W.cell? ⟨w.heap.size, 4, none⟩ = some (.int .u8 c1) ∧ W.cell? ⟨w.heap.size, 5, none⟩ = some (.int .u8 s1) ∧ W.cell? ⟨w.heap.size + 1, 0, none⟩ = some (.int .u8 ch2) ∧ W.cell? ⟨w.heap.size + 1, 1, none⟩ = some (.bool a2) ∧ W.cell? ⟨w.heap.size + 1, 2, none⟩ = some (.int .u8 fa2) ∧ W.cell? ⟨w.heap.size + 1, 3, none⟩ = some (.int .u8 h2) ∧ W.cell? ⟨w.heap.size + 1, 4, none⟩ = some (.int .u8 c2) ∧ W.cell? ⟨w.heap.size + 1, 5, none⟩ = some (.int .u8 s2) from fun W hu => by
    have b1 := (hu.at_ w.heap.size z1).1
    have b2 := (hu.at_ (w.heap.size + 1) z2).1
    simp only [b1, b2]
    exact SQ)
  have UQ' := Lib.hid UQ
  obtain ⟨k0, k1, k2, k3, k4, k5, m0, m1, m2, m3, m4, m5⟩ := SQ
  go_cut [6, 7] from 10 to 14 (fun v6 v7 wx => ∃ g1 g2, v6 = .pointer (some ⟨g1, 0, none⟩) ∧ v7 = .pointer (some ⟨g2, 0, none⟩) ∧ w.heap.size ≤ g1 ∧ w.heap.size ≤ g2 ∧ g1 < wx.heap.size ∧ g2 < wx.heap.size ∧ Up wq wx ∧ LookAt wx g1 h1 c1 s1 ∧ LookAt wx g2 h2 c2 s2)
  case first =>
    go_region_held3 (fun w' => w'.cell? ⟨w.heap.size, 0, none⟩ = some (.int .u8 ch1) ∧ w'.cell? ⟨w.heap.size, 1, none⟩ = some (.bool a1) ∧ w'.cell? ⟨w.heap.size, 2, none⟩ = some (.int .u8 fa1) ∧ w'.cell? ⟨w.heap.size, 3, none⟩ = some (.int .u8 h1) ∧ w'.cell? ⟨w.heap.size, 4, none⟩ = some (.int .u8 c1) ∧ w'.cell? ⟨w.heap.size, 5, none⟩ = some (.int .u8 s1) ∧ w'.cell? ⟨w.heap.size + 1, 0, none⟩ = some (.int .u8 ch2) ∧ w'.cell? ⟨w.heap.size + 1, 1, none⟩ = some (.bool a2) ∧ w'.cell? ⟨w.heap.size + 1, 2, none⟩ = some (.int .u8 fa2) ∧ w'.cell? ⟨w.heap.size + 1, 3, none⟩ = some (.int .u8 h2) ∧ w'.cell? ⟨w.heap.size + 1, 4, none⟩ = some (.int .u8 c2) ∧ w'.cell? ⟨w.heap.size + 1, 5, none⟩ = some (.int .u8 s2)) (first | exact TK.out _ (by (repeat (first | with_reducible exact Up.refl _ | with_reducible refine Up.alloc ?_ _ | with_reducible refine Up.drew ?_ | with_reducible refine Up.drewN ?_ _ | with_reducible refine Up.setCell ?_ (by (try simp) <;> omega) _ | with_reducible assumption | with_reducible refine Up.trans ?_ (by assumption))); first | done | fail) | trivial) (first | (go_at_call 39; refine (looks_is _ _ _ _ _ _ _).mono ?_; first | (have : wz.heap.size = wz.heap.size := rfl; clear this; rintro e wy ⟨rfl, uy⟩; (try (refine use_at uy (wq.heap.size) ?_ (fun p0 q0 l0 => ?_); ((try simp [World.drew, -World.drew_eq]) <;> omega))); (try (refine use_at uy (wq.heap.size + 1) ?_ (fun p1 q1 l1 => ?_); ((try simp [World.drew, -World.drew_eq]) <;> omega))); (try (refine use_at uy (wz.heap.size) ?_ (fun p2 q2 l2 => ?_); ((try simp [World.drew, -World.drew_eq]) <;> omega))); (try (refine use_at uy (wz.heap.size + 1) ?_ (fun p3 q3 l3 => ?_); ((try simp [World.drew, -World.drew_eq]) <;> omega))); have hy := uy.size; (try simp [World.drew, -World.drew_eq] at hy)) | (rintro e wz ⟨rfl, uz⟩; (try (refine use_at uz (wq.heap.size) ?_ (fun p0 q0 l0 => ?_); ((try simp [World.drew, -World.drew_eq]) <;> omega))); (try (refine use_at uz (wq.heap.size + 1) ?_ (fun p1 q1 l1 => ?_); ((try simp [World.drew, -World.drew_eq]) <;> omega))); have hz := uz.size; (try simp [World.drew, -World.drew_eq] at hz))))
    all_goals (go_wp2_with fail)
    all_goals go_meet
    all_goals exact ⟨_, _, rfl, rfl, by (try simp) <;> omega, by (try simp) <;> omega, by (try simp) <;> omega, by (try simp) <;> omega, by (repeat (first | with_reducible exact Up.refl _ | with_reducible refine Up.alloc ?_ _ | with_reducible refine Up.drew ?_ | with_reducible refine Up.drewN ?_ _ | with_reducible refine Up.setCell ?_ (by (try simp) <;> omega) _ | with_reducible assumption | with_reducible refine Up.trans ?_ (by assumption))), ⟨by go_simp, by go_simp, by go_simp, by go_simp, by go_simp, by go_simp⟩, ⟨by go_simp, by go_simp, by go_simp, by go_simp, by go_simp, by go_simp⟩⟩
  case rest =>
    obtain ⟨g1, g2, rfl, rfl, hg1, hg2, hb1, hb2, hU, hL1, hL2⟩ := hcut
    clear k0 k1 k2 k3 k4 k5 m0 m1 m2 m3 m4 m5 TK
    have HL1 := Lib.hid hL1
    have HL2 := Lib.hid hL2
    obtain ⟨x0, x1, x2, x3, x4, x5⟩ := hL1
    obtain ⟨y0, y1, y2, y3, y4, y5⟩ := hL2
    have UW := Lib.hid (UQ'.out.trans hU)
    have hsw := UW.out.size
    clear hU UQ UQ' z1 z2
    have ea := eqA h1 c1 s1 h2 c2 s2
    rcases Bool.eq_false_or_eq_true (h1 == h2 && (c1 == c2 && s1 == s2)) with hb | hb
    · have hR := HR.out
      have hnil : dJ (h1 != h2) (c1 != c2) (s1 != s2) h2 c2 s2 3 = [] := by
        simp only [Bool.and_eq_true, beq_iff_eq] at hb
        obtain ⟨rfl, rfl, rfl⟩ := hb
        simp [dJ, pick]
      rw [hnil] at hR
      subst hR
      clear hnil HR
      rw [hb] at ea
      clear hb
      go_wp2
      go_ret
      exact ⟨none, 0, rfl, World.ownsRow_nil _ _ _ _, by simp, by simp, UW.out⟩
    · rw [hb] at ea
      clear hb
      go_wp2
      clear x0 x1 x2 x3 x4 x5 y0 y1 y2 y3 y4 y5 ea
      go_loopw [5, 18] (fun v i wr => ∃ (j : Nat) (A1 : Option Addr) (c1' : Nat), j ≤ 3 ∧ i = .int .i64 (j : Int) ∧ v = .slice A1 (dJ (h1 != h2) (c1 != c2) (s1 != s2) h2 c2 s2 j).length c1' ∧ wr.ownsRow wc.heap.size 40 2 (.slice A1 (dJ (h1 != h2) (c1 != c2) (s1 != s2) h2 c2 s2 j).length c1') (dJ (h1 != h2) (c1 != c2) (s1 != s2) h2 c2 s2 j).length (ps (dJ (h1 != h2) (c1 != c2) (s1 != s2) h2 c2 s2 j)) ∧ Up wc wr) (fun _ i _ => 3 - (intOf i).toNat)
      case atStart => exact ⟨0, none, 0, by omega, rfl, by simp [dJ], World.ownsRow_nil _ _ _ _, Up.refl _⟩
      case round =>
        obtain ⟨j, A1, c1', hj, rfl, rfl, hown, hup⟩ := hrel
        have hsz := hup.size
        obtain ⟨x0, x1, x2, x3, x4, x5⟩ := HL1.out.up hup hb1
        have zg1 : g1 < wr.heap.size := by omega
        have hlen := dJ_len (h1 != h2) (c1 != c2) (s1 != s2) h2 c2 s2 j
        have hj4 : j = 0 ∨ j = 1 ∨ j = 2 ∨ j = 3 := by omega
        clear hj
        rcases hj4 with rfl | rfl | rfl | rfl
        · have ix := idx0 h2 c2 s2
          rcases Bool.eq_false_or_eq_true (h1 != h2) with hb | hb
          · have hb' : (h1 == h2) = false := by simpa [bne] using hb
            have HE := Lib.hid (show dJ (h1 != h2) (c1 != c2) (s1 != s2) h2 c2 s2 1 = dJ (h1 != h2) (c1 != c2) (s1 != s2) h2 c2 s2 0 ++ [(65, h2)] by simp [dJ, pick, hb, -bne_iff_ne])
            generalize dJ (h1 != h2) (c1 != c2) (s1 != s2) h2 c2 s2 0 = L at *
            go_wp2_with fail
            go_quiet (fail)
            go_wp2_with (at_builtin; refine wpList_app _ rfl (.tmp 27) (.tmp 29) 50 rfl wc.heap.size 40 i0 _ 2 2 Try.underlying50 hi0 hz0 hz1 hz2 rfl (by decide) A1 L.length c1' _ rfl (own_up hown (by (repeat (first | with_reducible exact Up.refl _ | with_reducible refine Up.alloc ?_ _ | with_reducible refine Up.drew ?_ | with_reducible refine Up.drewN ?_ _ | with_reducible refine Up.setCell ?_ (by (try simp) <;> omega) _ | with_reducible assumption | with_reducible refine Up.trans ?_ (by assumption))))) _ _ 1 1 _ rfl (reads_at _ _ 2 1 _ _ rfl (by simp)) (by simp [Value.oneCell']) (by (simp [maxLen]) <;> omega) (by omega) (by (try simp) <;> omega) ?_; intro A2 c2' w4 hown4 hg4 hle4 hmx4 hbl4)
            go_roundw
            case rel =>
              refine ⟨1, A2, c2', by omega, by go_num, ?_, ?_, Up.past (by (repeat (first | with_reducible exact Up.refl _ | with_reducible refine Up.alloc ?_ _ | with_reducible refine Up.drew ?_ | with_reducible refine Up.drewN ?_ _ | with_reducible refine Up.setCell ?_ (by (try simp) <;> omega) _ | with_reducible assumption | with_reducible refine Up.trans ?_ (by assumption)))) hbl4⟩
              · rw [HE.out]; simp
              · rw [HE.out, ps_snoc, List.length_append]; exact hown4
            case measure => simp [intOf]
          · have hb' : (h1 == h2) = true := by simpa [bne] using hb
            have HE := Lib.hid (show dJ (h1 != h2) (c1 != c2) (s1 != s2) h2 c2 s2 1 = dJ (h1 != h2) (c1 != c2) (s1 != s2) h2 c2 s2 0 by simp [dJ, pick, hb, -bne_iff_ne, -bne_eq_false_iff_eq])
            generalize dJ (h1 != h2) (c1 != c2) (s1 != s2) h2 c2 s2 0 = L at *
            go_wp2_with fail
            go_quiet (fail)
            go_wp2
            go_roundw
            case rel => exact ⟨1, A1, c1', by omega, by go_num, by rw [HE.out], by rw [HE.out]; exact own_up hown (by (repeat (first | with_reducible exact Up.refl _ | with_reducible refine Up.alloc ?_ _ | with_reducible refine Up.drew ?_ | with_reducible refine Up.drewN ?_ _ | with_reducible refine Up.setCell ?_ (by (try simp) <;> omega) _ | with_reducible assumption | with_reducible refine Up.trans ?_ (by assumption)))), by (repeat (first | with_reducible exact Up.refl _ | with_reducible refine Up.alloc ?_ _ | with_reducible refine Up.drew ?_ | with_reducible refine Up.drewN ?_ _ | with_reducible refine Up.setCell ?_ (by (try simp) <;> omega) _ | with_reducible assumption | with_reducible refine Up.trans ?_ (by assumption)))⟩
            case measure => simp [intOf]
        · have ix := idx1 h2 c2 s2
          rcases Bool.eq_false_or_eq_true (c1 != c2) with hb | hb
          · have hb' : (c1 == c2) = false := by simpa [bne] using hb
            have HE := Lib.hid (show dJ (h1 != h2) (c1 != c2) (s1 != s2) h2 c2 s2 2 = dJ (h1 != h2) (c1 != c2) (s1 != s2) h2 c2 s2 1 ++ [(66, c2)] by simp [dJ, pick, hb, -bne_iff_ne])
            generalize dJ (h1 != h2) (c1 != c2) (s1 != s2) h2 c2 s2 1 = L at *
            go_wp2_with fail
            go_quiet (fail)
            go_wp2_with (at_builtin; refine wpList_app _ rfl (.tmp 27) (.tmp 29) 50 rfl wc.heap.size 40 i0 _ 2 2 Try.underlying50 hi0 hz0 hz1 hz2 rfl (by decide) A1 L.length c1' _ rfl (own_up hown (by (repeat (first | with_reducible exact Up.refl _ | with_reducible refine Up.alloc ?_ _ | with_reducible refine Up.drew ?_ | with_reducible refine Up.drewN ?_ _ | with_reducible refine Up.setCell ?_ (by (try simp) <;> omega) _ | with_reducible assumption | with_reducible refine Up.trans ?_ (by assumption))))) _ _ 1 1 _ rfl (reads_at _ _ 2 1 _ _ rfl (by simp)) (by simp [Value.oneCell']) (by (simp [maxLen]) <;> omega) (by omega) (by (try simp) <;> omega) ?_; intro A2 c2' w4 hown4 hg4 hle4 hmx4 hbl4)
            go_roundw
            case rel =>
              refine ⟨2, A2, c2', by omega, by go_num, ?_, ?_, Up.past (by (repeat (first | with_reducible exact Up.refl _ | with_reducible refine Up.alloc ?_ _ | with_reducible refine Up.drew ?_ | with_reducible refine Up.drewN ?_ _ | with_reducible refine Up.setCell ?_ (by (try simp) <;> omega) _ | with_reducible assumption | with_reducible refine Up.trans ?_ (by assumption)))) hbl4⟩
              · rw [HE.out]; simp
              · rw [HE.out, ps_snoc, List.length_append]; exact hown4
            case measure => simp [intOf]
          · have hb' : (c1 == c2) = true := by simpa [bne] using hb
            have HE := Lib.hid (show dJ (h1 != h2) (c1 != c2) (s1 != s2) h2 c2 s2 2 = dJ (h1 != h2) (c1 != c2) (s1 != s2) h2 c2 s2 1 by simp [dJ, pick, hb, -bne_iff_ne, -bne_eq_false_iff_eq])
            generalize dJ (h1 != h2) (c1 != c2) (s1 != s2) h2 c2 s2 1 = L at *
            go_wp2_with fail
            go_quiet (fail)
            go_wp2
            go_roundw
            case rel => exact ⟨2, A1, c1', by omega, by go_num, by rw [HE.out], by rw [HE.out]; exact own_up hown (by (repeat (first | with_reducible exact Up.refl _ | with_reducible refine Up.alloc ?_ _ | with_reducible refine Up.drew ?_ | with_reducible refine Up.drewN ?_ _ | with_reducible refine Up.setCell ?_ (by (try simp) <;> omega) _ | with_reducible assumption | with_reducible refine Up.trans ?_ (by assumption)))), by (repeat (first | with_reducible exact Up.refl _ | with_reducible refine Up.alloc ?_ _ | with_reducible refine Up.drew ?_ | with_reducible refine Up.drewN ?_ _ | with_reducible refine Up.setCell ?_ (by (try simp) <;> omega) _ | with_reducible assumption | with_reducible refine Up.trans ?_ (by assumption)))⟩
            case measure => simp [intOf]
        · have ix := idx2 h2 c2 s2
          rcases Bool.eq_false_or_eq_true (s1 != s2) with hb | hb
          · have hb' : (s1 == s2) = false := by simpa [bne] using hb
            have HE := Lib.hid (show dJ (h1 != h2) (c1 != c2) (s1 != s2) h2 c2 s2 3 = dJ (h1 != h2) (c1 != c2) (s1 != s2) h2 c2 s2 2 ++ [(67, s2)] by simp [dJ, pick, hb, -bne_iff_ne])
            generalize dJ (h1 != h2) (c1 != c2) (s1 != s2) h2 c2 s2 2 = L at *
            go_wp2_with fail
            go_quiet (fail)
            go_wp2_with (at_builtin; refine wpList_app _ rfl (.tmp 27) (.tmp 29) 50 rfl wc.heap.size 40 i0 _ 2 2 Try.underlying50 hi0 hz0 hz1 hz2 rfl (by decide) A1 L.length c1' _ rfl (own_up hown (by (repeat (first | with_reducible exact Up.refl _ | with_reducible refine Up.alloc ?_ _ | with_reducible refine Up.drew ?_ | with_reducible refine Up.drewN ?_ _ | with_reducible refine Up.setCell ?_ (by (try simp) <;> omega) _ | with_reducible assumption | with_reducible refine Up.trans ?_ (by assumption))))) _ _ 1 1 _ rfl (reads_at _ _ 2 1 _ _ rfl (by simp)) (by simp [Value.oneCell']) (by (simp [maxLen]) <;> omega) (by omega) (by (try simp) <;> omega) ?_; intro A2 c2' w4 hown4 hg4 hle4 hmx4 hbl4)
            go_roundw
            case rel =>
              refine ⟨3, A2, c2', by omega, by go_num, ?_, ?_, Up.past (by (repeat (first | with_reducible exact Up.refl _ | with_reducible refine Up.alloc ?_ _ | with_reducible refine Up.drew ?_ | with_reducible refine Up.drewN ?_ _ | with_reducible refine Up.setCell ?_ (by (try simp) <;> omega) _ | with_reducible assumption | with_reducible refine Up.trans ?_ (by assumption)))) hbl4⟩
              · rw [HE.out]; simp
              · rw [HE.out, ps_snoc, List.length_append]; exact hown4
            case measure => simp [intOf]
          · have hb' : (s1 == s2) = true := by simpa [bne] using hb
            have HE := Lib.hid (show dJ (h1 != h2) (c1 != c2) (s1 != s2) h2 c2 s2 3 = dJ (h1 != h2) (c1 != c2) (s1 != s2) h2 c2 s2 2 by simp [dJ, pick, hb, -bne_iff_ne, -bne_eq_false_iff_eq])
            generalize dJ (h1 != h2) (c1 != c2) (s1 != s2) h2 c2 s2 2 = L at *
            go_wp2_with fail
            go_quiet (fail)
            go_wp2
            go_roundw
            case rel => exact ⟨3, A1, c1', by omega, by go_num, by rw [HE.out], by rw [HE.out]; exact own_up hown (by (repeat (first | with_reducible exact Up.refl _ | with_reducible refine Up.alloc ?_ _ | with_reducible refine Up.drew ?_ | with_reducible refine Up.drewN ?_ _ | with_reducible refine Up.setCell ?_ (by (try simp) <;> omega) _ | with_reducible assumption | with_reducible refine Up.trans ?_ (by assumption)))), by (repeat (first | with_reducible exact Up.refl _ | with_reducible refine Up.alloc ?_ _ | with_reducible refine Up.drew ?_ | with_reducible refine Up.drewN ?_ _ | with_reducible refine Up.setCell ?_ (by (try simp) <;> omega) _ | with_reducible assumption | with_reducible refine Up.trans ?_ (by assumption)))⟩
            case measure => simp [intOf]
        · generalize dJ (h1 != h2) (c1 != c2) (s1 != s2) h2 c2 s2 3 = L at *
          go_wp2
          go_ret
          obtain ⟨_, c', e1, hle, hmx⟩ := own_form hown
          injection e1 with _ _ e1
          subst e1
          have hR := HR.out
          subst hR
          exact ⟨A1, c1', rfl, own_base hown hsw, hle, hmx, UW.out.trans hup⟩
end Go.Proofs.Ytockighgdkebaaa
