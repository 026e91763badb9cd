/-
  What an act does to the document's cursor and to the program's: they stay alike. No condition.
-/
import Derived.Test.YtjokcfenncogkaaCur2
namespace Go.Proofs.Ytjokcfenncogkaa
open Go.RowKit
set_option linter.unusedVariables false
set_option linter.unusedSimpArgs false

/-- an act of layer 15: where the cursor comes to -/
def cactN (X : Spc) (d rows cols : Int) : Int :=
  if d % 6 = 0 then tabN X X.cur 1 else if d % 6 = 1 then tabN X X.cur (-1) else if d % 6 = 2 then X.first (lineN X) else if d % 6 = 3 then X.first 0 else if d % 6 = 4 then moveN X.r X.c X.cur rows cols else afterN X
theorem afterN_bd {X : Spc} (ok : X.Ok) : 0 ≤ afterN X ∧ afterN X < X.r * X.c := by
  have hp := Spc.pos ok
  unfold afterN
  split
  · split
    · exact tabN_bd ok _ _
    · exact ⟨Int.emod_nonneg _ (by omega), Int.emod_lt_of_pos _ hp⟩
  · exact ⟨Int.emod_nonneg _ (by omega), Int.emod_lt_of_pos _ hp⟩
theorem cactN_bd {X : Spc} (ok : X.Ok) (d rows cols : Int) : 0 ≤ cactN X d rows cols ∧ cactN X d rows cols < X.r * X.c := by
  unfold cactN
  repeat' split
  · exact tabN_bd ok _ _
  · exact tabN_bd ok _ _
  · exact first_bd ok _
  · exact first_bd ok _
  · exact moveN_bd ok.valid _ _ _
  · exact afterN_bd ok
set_option maxRecDepth 100000 in
set_option maxHeartbeats 6400000 in
theorem cdo_is {p g : Nat} {X : Spc} {w : World} (d rows cols : Int) (d0 : 0 ≤ d) (d1 : d ≤ 255) (hs : SAt w p g X) (ok : X.Ok) :
    Calls Try.prog 92 #[.pointer (some ⟨p, 0, none⟩), .agg #[.int .u8 d, .int .i64 rows, .int .i64 cols]] w fun e w' => e = .returned (.tuple #[]) ∧ SAt w' p g (X.goTo (cactN X d rows cols)) ∧ Keep (two p g) w w' := by
  have HS := Lib.hid hs
  have HA := Lib.hid (show cactN X d rows cols = if d % 6 = 0 then tabN X X.cur 1 else if d % 6 = 1 then tabN X X.cur (-1) else if d % 6 = 2 then X.first (lineN X) else if d % 6 = 3 then X.first 0 else if d % 6 = 4 then moveN X.r X.c X.cur rows cols else afterN X from rfl)
  have H0 := Lib.hid (fun W (h : SAt W p g X) => ctab_is h ok)
  have H1 := Lib.hid (fun W (h : SAt W p g X) => cback_is h ok)
  have H2 := Lib.hid (fun W (h : SAt W p g X) => cline_is h ok)
  have H3 := Lib.hid (fun W (h : SAt W p g X) => chome_is h ok)
  have H4 := Lib.hid (fun W (h : SAt W p g X) => cmove_is rows cols h ok)
  have H5 := Lib.hid (fun W (h : SAt W p g X) => cafter_is h ok)
  obtain ⟨v, hv⟩ : ∃ v, cactN X d rows cols = v := ⟨_, rfl⟩
  rw [hv] at HA ⊢
  clear hs ok hv
  have hmd : 0 ≤ d % 6 ∧ d % 6 < 6 := by omega
  obtain ⟨e6, he6⟩ : ∃ e6, d % 6 = e6 := ⟨_, rfl⟩
  rw [he6] at hmd HA
  rcases (show e6 = 0 ∨ e6 = 1 ∨ e6 = 2 ∨ e6 = 3 ∨ e6 = 4 ∨ e6 = 5 by omega) with rfl | rfl | rfl | rfl | rfl | rfl
  all_goals
    (first | have E0 : (d % 6 == 0) = true := by rw [he6]; decide | have E0 : (d % 6 == 0) = false := by rw [he6]; decide)
    (first | have E1 : (d % 6 == 1) = true := by rw [he6]; decide | have E1 : (d % 6 == 1) = false := by rw [he6]; decide)
    (first | have E2 : (d % 6 == 2) = true := by rw [he6]; decide | have E2 : (d % 6 == 2) = false := by rw [he6]; decide)
    (first | have E3 : (d % 6 == 3) = true := by rw [he6]; decide | have E3 : (d % 6 == 3) = false := by rw [he6]; decide)
    (first | have E4 : (d % 6 == 4) = true := by rw [he6]; decide | have E4 : (d % 6 == 4) = false := by rw [he6]; decide)
    clear he6 hmd
    have HV := Lib.hid (show _ from HA.out.symm)
    simp at HV
    go_enter Try.func92, Try.ntmps92
    go_wp2_with fail
    (first
      | refine (H0.out _ (HS.out.up ((Up.refl w).alloc _))).mono ?_
      | refine (H1.out _ (HS.out.up ((Up.refl w).alloc _))).mono ?_
      | refine (H2.out _ (HS.out.up ((Up.refl w).alloc _))).mono ?_
      | refine (H3.out _ (HS.out.up ((Up.refl w).alloc _))).mono ?_
      | refine (H4.out _ (HS.out.up ((Up.refl w).alloc _))).mono ?_
      | refine (H5.out _ (HS.out.up ((Up.refl w).alloc _))).mono ?_)
    rintro e w2 ⟨rfl, hs2, hk2⟩
    go_wp2_with fail
    go_end0
    exact ⟨rfl, by rw [← HV.out]; exact hs2, (Keep.of_up ((Up.refl w).alloc _)).trans hk2⟩
end Go.Proofs.Ytjokcfenncogkaa
