/-
  The law's same of a screen and the document's; an act of layer 14. No condition.
-/
import Derived.Test.YtjokcfenncogkaaBk14
import Derived.Test.YtjokcfenncogkaaEqC
namespace Go.Proofs.Ytjokcfenncogkaa
open Go.RowKit
set_option linter.unusedVariables false
set_option linter.unusedSimpArgs false

/-- an act of layer 14 as it comes in -/
structure A14 where
  d : Int
  n : Int
  t : Int
  c : Cl
def A14.enc (a : A14) : List Value := [Value.int .u8 a.d, .int .i64 a.n, .int .i64 a.t] ++ a.c.enc
def A14.Ok (a : A14) : Prop := isB a.d ∧ (-9223372036854775808 ≤ a.n ∧ a.n ≤ 9223372036854775807) ∧ (-9223372036854775808 ≤ a.t ∧ a.t ≤ 9223372036854775807) ∧ a.c.Wf
theorem eqD14 (d : Cl) (W : World) : (Op.equalIn 10000 25 (.agg #[.int .u8 d.ch, .bool d.at_, .int .u8 d.fa, .int .u8 d.hi, .int .u8 d.co, .int .u8 d.se]) (.agg #[.int .u8 d.ch, .bool d.at_, .int .u8 d.fa, .int .u8 d.hi, .int .u8 d.co, .int .u8 d.se])).run Try.prog W = .ok true W := eqC (c := d) (d := d) (by simp) W
set_option maxRecDepth 100000 in
set_option maxHeartbeats 6400000 in
theorem same14_is {p g q h : Nat} {X : Spc} {w : World} (hs : SAt w p g X) (hr : RAt w q h X) (ok : X.Ok) :
    Calls Try.prog 105 #[.pointer (some ⟨p, 0, none⟩), .pointer (some ⟨q, 0, none⟩)] w fun e w' => e = .returned (.bool true) ∧ Up w w' := by
  have HS := Lib.hid hs
  have HR := Lib.hid hr
  have HOK := Lib.hid ok
  have HCE := Lib.hid (fun k c hk => hr.cells.2.2 k c hk)
  have HAT := Lib.hid (fun k (hk : k < X.L.length) => Spc.at_nat ok hk)
  obtain ⟨cap, q1, q2, k4⟩ := hr.h4
  have k1 := hr.h1
  have k5 := hr.h5
  have zp := hr.lt
  have zg := hr.cells.2.1
  have hsm := ok.small
  have hcp : (cap : Int) ≤ 9223372036854775807 := by simp [maxLen] at q2; omega
  obtain ⟨m, hm⟩ : ∃ m, X.L.length = m := ⟨_, rfl⟩
  rw [hm] at q1 k4 hsm HAT
  clear hs hr ok hm q2
  go_enter Try.func105, Try.ntmps105
  go_wp2_with fail
  go_loopw [12] (fun i wr => ∃ j : Nat, j ≤ m ∧ i = .int .i64 (j : Int) ∧ Up w wr) (fun i _ => m - (intOf i).toNat)
  case atStart => exact ⟨0, by omega, rfl, Up.refl _⟩
  case round =>
    obtain ⟨j, hj, rfl, huj⟩ := hrel
    have HUJ := Lib.hid huj
    have zj := huj.size
    by_cases hlt : j < m
    · have hat := HAT.out j hlt
      obtain ⟨d, hd⟩ : ∃ d, X.at_ (j : Int) = d := ⟨_, rfl⟩
      rw [hd] at hat
      have HAD := Lib.hid (fun W (h' : SAt W p g X) => sat_op (j : Int) h' HOK.out hd)
      obtain ⟨x0, x1, x2, x3, x4, x5⟩ := (HCE.out j d hat).keep (huj.at_ h zg).1
      have zgj : h < wr.heap.size := by omega
      have hjm : (j : Int) < (m : Int) := by omega
      have ea := eqD14 d
      clear hat hd huj
      obtain ⟨dch, da, dfa, dhi, dco, dse⟩ := d
      simp only at x0 x1 x2 x3 x4 x5 ea HAD
      have HUA := Lib.hid (HUJ.out.alloc (.cells #[.int .u8 dch, .bool da, .int .u8 dfa, .int .u8 dhi, .int .u8 dco, .int .u8 dse] 25))
      go_wp2_with fail
      refine wp_region_mix (NS := []) [] rfl (by kernel_rfl) (by kernel_rfl) (by simp) (by simp) ?_
      repeat (first
        | (refine mix_skip rfl rfl ?_; simp only [Act.put, List.setIfInBounds_toArray, List.set_cons_succ, List.set_cons_zero])
        | (refine mix_q rfl rfl rfl (by kernel_rfl) rfl rfl rfl ?_
           apply Exists.intro
           refine ⟨fun Wm => ?_, ?_⟩
           · simp only [fin]
             skip
             intro K hK
             go_wp2_with ((go_at_call 27; (with_reducible refine (HAD.out _ (HS.out.up (HUA.out.trans (up_upOf _ _)))).mono ?_); rintro e w' ⟨rfl, hux⟩))
             refine hK _ _ ?_ ?_ ?_
             · (repeat (first | with_reducible exact Up.refl _ | with_reducible refine Up.alloc ?_ _ | with_reducible refine Up.drew ?_ | with_reducible refine Up.drewN ?_ _ | with_reducible refine Up.setCell ?_ (by (try simp) <;> omega) _ | with_reducible assumption | with_reducible refine Up.trans ?_ (by assumption)))
             · rfl
             · exact tmps_at rfl
           simp only [Act.put, List.setIfInBounds_toArray, List.set_cons_succ, List.set_cons_zero]))
      refine mix_nil ?_
      intro w4 hb_w4
      simp only [fin]
      have hu_w4 : Up wr w4 := by (repeat (first | with_reducible exact Up.refl _ | with_reducible refine Up.alloc ?_ _ | with_reducible refine Up.drew ?_ | with_reducible refine Up.drewN ?_ _ | with_reducible refine Up.setCell ?_ (by (try simp) <;> omega) _ | with_reducible assumption | with_reducible refine Up.trans ?_ (by assumption)))
      have hz_w4 := Up.size hb_w4
      try simp at hz_w4
      go_wp2_with fail
      go_roundw
      case rel => exact ⟨j + 1, by omega, by go_num, HUJ.out.trans hu_w4⟩
      case measure => simp [intOf]; omega
    · obtain rfl : j = m := by omega
      have HCU := Lib.hid (fun W (h' : SAt W p g X) => scur_is h')
      have HAL := Lib.hid (fun W (h' : SAt W p g X) => salt_is h')
      have kk1 := ((huj.at_ q zp).1 1).trans k1
      have kk5 := ((huj.at_ q zp).1 5).trans k5
      have zq : q < wr.heap.size := by omega
      have ea : (X.alt == X.alt) = true := by simp
      generalize X.alt = al at *
      generalize X.cur = cu at *
      clear huj
      go_wp2_with fail
      refine wp_region_mix (NS := []) [] rfl (by kernel_rfl) (by kernel_rfl) (by simp) (by simp) ?_
      repeat (first
        | (refine mix_skip rfl rfl ?_; simp only [Act.put, List.setIfInBounds_toArray, List.set_cons_succ, List.set_cons_zero])
        | (refine mix_q rfl rfl rfl (by kernel_rfl) rfl rfl rfl ?_
           apply Exists.intro
           refine ⟨fun Wm => ?_, ?_⟩
           · simp only [fin]
             skip
             intro K hK
             go_wp2_with ((first | (go_at_call 33; (with_reducible refine (HCU.out _ (HS.out.up (HUJ.out.trans (up_upOf _ _)))).mono ?_); rintro e w' ⟨rfl, rfl⟩) | (go_at_call 67; (with_reducible refine (HAL.out _ (HS.out.up (HUJ.out.trans (up_upOf _ _)))).mono ?_); rintro e w' ⟨rfl, rfl⟩)))
             refine hK _ _ ?_ ?_ ?_
             · (repeat (first | with_reducible exact Up.refl _ | with_reducible refine Up.alloc ?_ _ | with_reducible refine Up.drew ?_ | with_reducible refine Up.drewN ?_ _ | with_reducible refine Up.setCell ?_ (by (try simp) <;> omega) _ | with_reducible assumption | with_reducible refine Up.trans ?_ (by assumption)))
             · rfl
             · exact tmps_at rfl
           simp only [Act.put, List.setIfInBounds_toArray, List.set_cons_succ, List.set_cons_zero]))
      refine mix_nil ?_
      intro w4 hb_w4
      simp only [fin]
      have hu_w4 : Up wr w4 := by (repeat (first | with_reducible exact Up.refl _ | with_reducible refine Up.alloc ?_ _ | with_reducible refine Up.drew ?_ | with_reducible refine Up.drewN ?_ _ | with_reducible refine Up.setCell ?_ (by (try simp) <;> omega) _ | with_reducible assumption | with_reducible refine Up.trans ?_ (by assumption)))
      have hz_w4 := Up.size hb_w4
      try simp at hz_w4
      obtain ⟨bc_w4_0, bf_w4_0⟩ := hu_w4.at_ (q) (by omega)
      have zb_w4_0 : q < w4.heap.size := by omega
      go_wp2_with fail
      go_ret
      exact ⟨rfl, HUJ.out.trans hu_w4⟩
end Go.Proofs.Ytjokcfenncogkaa
