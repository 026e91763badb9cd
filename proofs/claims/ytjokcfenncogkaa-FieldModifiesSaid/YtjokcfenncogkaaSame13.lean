/-
  The document's Modified; the law's same of a screen and the document's. No condition.
-/
import Derived.Test.YtjokcfenncogkaaRf13c
import Derived.Test.YtjokcfenncogkaaModif13
import Derived.Test.YtjokcfenncogkaaEqC
namespace Go.Proofs.Ytjokcfenncogkaa
open Go.RowKit
set_option linter.unusedVariables false
set_option linter.unusedSimpArgs false

set_option maxRecDepth 100000 in
set_option maxHeartbeats 6400000 in
theorem rmodified_is {q h : Nat} {X : Spc} {w : World} (hr : RAt w q h X) (ok : X.Ok) :
    Calls Try.prog 86 #[.pointer (some ⟨q, 0, none⟩)] w fun e w' => ∃ A c, e = .returned (.slice A X.modified.length c) ∧ OwnI w.heap.size w' A X.modified.length c X.modified ∧ Up w w' := by
  obtain ⟨i0, hi, hz0, hz1, hz2⟩ := info_parts info_i64
  have fR := fldR3
  have HR := Lib.hid hr
  have RA := Lib.hid (rattrs_is hr ok)
  have HF := Lib.hid (fun W (h' : RAt W q h X) k (hk : k < X.L.length) f hf => rfield_is h' ok hk (f := f) hf)
  have hl := those_len (isAt X.L) X.L.length
  have hsm := ok.small
  have HMEM := Lib.hid (fun (j : Nat) (a : Int) (ha : X.attrs[j]? = some a) => show ∃ k : Nat, a = k ∧ k < X.L.length from by
    obtain ⟨k, h1, h2, h3⟩ := mem_those.1 (show a ∈ those (isAt X.L) X.L.length from List.mem_of_getElem? ha)
    exact ⟨k, h1, h2⟩)
  have hla : X.attrs.length ≤ X.L.length := hl
  have HMO := Lib.hid (show X.modified = X.attrs.filter (fun a => fM (X.at_ a).fa) from rfl)
  obtain ⟨La, hLa⟩ : ∃ La, X.attrs = La := ⟨_, rfl⟩
  rw [hLa] at RA HMEM hla HMO
  obtain ⟨nl, hnl⟩ : ∃ nl, La.length = nl := ⟨_, rfl⟩
  have HNL := Lib.hid hnl
  rw [hnl] at hla
  clear hl hr ok hLa hnl
  go_enter Try.func86, Try.ntmps86
  go_wp2_with fail
  refine RA.out.mono ?_
  rintro e w1 ⟨A0, c0, rfl, hown0, hu1⟩
  have z1 := hu1.size
  have HU1 := Lib.hid hu1
  have HRD := Lib.hid hown0.reads
  have hc0 : (c0 : Int) ≤ 9223372036854775807 := by have := hown0.mx; simp [maxLen] at this; omega
  have hle0 := hown0.le
  rw [HNL.out] at HRD hle0 ⊢
  clear hown0 hu1
  go_wp2_with fail
  go_loopw [3, 9] (fun v i wr => ∃ (j : Nat) (A : Option Addr) (n c : Nat), j ≤ nl ∧ v = .slice A n c ∧ i = .int .i64 (j : Int) ∧ OwnI w1.heap.size wr A n c ((La.take j).filter (fun a => fM (X.at_ a).fa)) ∧ Up w1 wr) (fun _ i _ => nl - (intOf i).toNat)
  case atStart => exact ⟨0, none, 0, 0, by omega, rfl, rfl, OwnI.nil _ _, Up.refl _⟩
  case round =>
    obtain ⟨j, A, n, c, hj, rfl, rfl, hown, huj⟩ := hrel
    have HUJ := Lib.hid huj
    have HOW := Lib.hid hown
    have hn := hown.len
    have hn2 : ((La.take j).filter (fun a => fM (X.at_ a).fa)).length ≤ j := Nat.le_trans (List.length_filter_le _ _) (by rw [List.length_take]; omega)
    have zj := huj.size
    by_cases hlt : j < nl
    · obtain ⟨a, ha⟩ : ∃ a, La[j]? = some a := ⟨_, List.getElem?_eq_getElem (by have := HNL.out; omega)⟩
      obtain ⟨k, rfl, hk⟩ := HMEM.out j a ha
      have hrd := HRD.out.below huj
      obtain ⟨b, off, rfl, hb⟩ := hrd.form (by omega)
      obtain ⟨hbl, u, hu, hcl⟩ := hrd.at_ (j := j) (by omega)
      have hux : u = .int .i64 (k : Int) := by
        unfold ns at hu
        rw [List.getElem?_map, ha] at hu
        injection hu with hu
        exact hu.symm
      subst hux
      have zb : b < wr.heap.size := by omega
      have HSJ := Lib.hid (show (La.take (j + 1)).filter (fun a => fM (X.at_ a).fa) = (La.take j).filter (fun a => fM (X.at_ a).fa) ++ (if fM (X.at_ (k : Int)).fa then [(k : Int)] else []) by
        obtain ⟨h1, h2⟩ := List.getElem?_eq_some_iff.1 ha
        rw [List.take_succ_eq_append_getElem h1, h2, List.filter_append]
        congr 1
        by_cases hh : fM (X.at_ (k : Int)).fa = true <;> simp [hh])
      have hjm : (j : Int) < (nl : Int) := by omega
      have hn5 : n ≤ 65535 := by omega
      obtain ⟨f, hf⟩ : ∃ f, (X.at_ (k : Int)).fa = f := ⟨_, rfl⟩
      have HFJ := Lib.hid (HF.out wr (HR.out.up (HU1.out.trans huj)) k hk f hf)
      rw [hf] at HSJ
      obtain ⟨bm, hbm⟩ : ∃ bm, fM f = bm := ⟨_, rfl⟩
      rw [hbm] at HFJ HSJ
      clear hf hk ha hu hrd huj hown hn hn2 hbm
      cases bm
      · go_wp2_with fail
        refine HFJ.out.mono ?_
        rintro e w3 ⟨rfl, hu3⟩
        have HU3 := Lib.hid hu3
        clear hu3
        go_wp2_with fail
        go_roundw
        case rel => exact ⟨j + 1, A, n, c, by omega, rfl, by go_num, by rw [HSJ.out, if_neg (by simp), List.append_nil]; exact HOW.out.up HU3.out, HUJ.out.trans HU3.out⟩
        case measure => simp [intOf]; omega
      · go_wp2_with fail
        refine HFJ.out.mono ?_
        rintro e w3 ⟨rfl, hu3⟩
        have HU3 := Lib.hid hu3
        have z3 := hu3.size
        clear hu3
        go_wp2_with (at_builtin; refine wpList_push i0 hi hz0 hz1 hz2 Try.underlying50 rfl (.tmp 17) (.tmp 19) rfl _ (k : Int) rfl _ (by simp) w1.heap.size A n c ((La.take j).filter (fun a => fM (X.at_ a).fa)) rfl rfl (HOW.out.up (HU3.out.trans (by (repeat (first | with_reducible exact Up.refl _ | with_reducible refine Up.alloc ?_ _ | with_reducible refine Up.drew ?_ | with_reducible refine Up.drewN ?_ _ | with_reducible refine Up.setCell ?_ (by (try simp) <;> omega) _ | with_reducible assumption | with_reducible refine Up.trans ?_ (by assumption)))))) hn5 (by (try simp) <;> omega) ?_; intro A2 c2 w5 hown2 hg2 hbl2 _; have HO2 := Lib.hid hown2; have HB2 := Lib.hid hbl2; clear hown2 hg2 hbl2)
        go_roundw
        case rel => exact ⟨j + 1, A2, n + 1, c2, by omega, rfl, by go_num, by rw [HSJ.out, if_pos trivial]; exact HO2.out, Up.past (HUJ.out.trans HU3.out) HB2.out⟩
        case measure => simp [intOf]; omega
    · obtain rfl : j = nl := by omega
      have HA := Lib.hid (show (La.take j).filter (fun a => fM (X.at_ a).fa) = X.modified by rw [HMO.out, List.take_of_length_le (by have := HNL.out; omega)])
      rw [HA.out] at HOW
      clear hn hn2 hown
      go_wp2_with fail
      go_ret
      have hn := HOW.out.len
      subst hn
      exact ⟨A, c, rfl, HOW.out.low (by omega), HU1.out.trans HUJ.out⟩
theorem eqD (d : Cl) (W : World) : (Op.equalIn 10000 25 (.agg #[.int .u8 d.ch, .bool d.at_, .int .u8 d.fa, .int .u8 d.hi, .int .u8 d.co, .int .u8 d.se]) (.agg #[.int .u8 d.ch, .bool d.at_, .int .u8 d.fa, .int .u8 d.hi, .int .u8 d.co, .int .u8 d.se])).run Try.prog W = .ok true W := eqC (c := d) (d := d) (by simp) W
set_option maxRecDepth 100000 in
set_option maxHeartbeats 6400000 in
theorem same13_is {p g q h : Nat} {X : Spc} {w : World} (hs : SAt w p g X) (hr : RAt w q h X) (ok : X.Ok) :
    Calls Try.prog 84 #[.pointer (some ⟨p, 0, none⟩), .pointer (some ⟨q, 0, none⟩)] w fun e w' => e = .returned (.bool true) ∧ Up w w' := by
  have HS := Lib.hid hs
  have HR := Lib.hid hr
  have HOK := Lib.hid ok
  have HCE := Lib.hid (fun k c hk => hr.cells.2.2 k c hk)
  have HAT := Lib.hid (fun k (hk : k < X.L.length) => Spc.at_nat ok hk)
  obtain ⟨cap, q1, q2, k4⟩ := hr.h4
  have k1 := hr.h1
  have k5 := hr.h5
  have zp := hr.lt
  have zg := hr.cells.2.1
  have hsm := ok.small
  have hcp : (cap : Int) ≤ 9223372036854775807 := by simp [maxLen] at q2; omega
  obtain ⟨m, hm⟩ : ∃ m, X.L.length = m := ⟨_, rfl⟩
  rw [hm] at q1 k4 hsm HAT
  clear hs hr ok hm q2
  go_enter Try.func84, Try.ntmps84
  go_wp2_with fail
  go_loopw [12] (fun i wr => ∃ j : Nat, j ≤ m ∧ i = .int .i64 (j : Int) ∧ Up w wr) (fun i _ => m - (intOf i).toNat)
  case atStart => exact ⟨0, by omega, rfl, Up.refl _⟩
  case round =>
    obtain ⟨j, hj, rfl, huj⟩ := hrel
    have HUJ := Lib.hid huj
    have zj := huj.size
    by_cases hlt : j < m
    · have hat := HAT.out j hlt
      obtain ⟨d, hd⟩ : ∃ d, X.at_ (j : Int) = d := ⟨_, rfl⟩
      rw [hd] at hat
      have HAD := Lib.hid (fun W (h' : SAt W p g X) => sat_op (j : Int) h' HOK.out hd)
      obtain ⟨x0, x1, x2, x3, x4, x5⟩ := (HCE.out j d hat).keep (huj.at_ h zg).1
      have zgj : h < wr.heap.size := by omega
      have hjm : (j : Int) < (m : Int) := by omega
      have ea := eqD d
      clear hat hd huj
      obtain ⟨dch, da, dfa, dhi, dco, dse⟩ := d
      simp only at x0 x1 x2 x3 x4 x5 ea HAD
      have HUA := Lib.hid (HUJ.out.alloc (.cells #[.int .u8 dch, .bool da, .int .u8 dfa, .int .u8 dhi, .int .u8 dco, .int .u8 dse] 25))
      go_wp2_with fail
      refine wp_region_mix (NS := []) [] rfl (by kernel_rfl) (by kernel_rfl) (by simp) (by simp) ?_
      repeat (first
        | (refine mix_skip rfl rfl ?_; simp only [Act.put, List.setIfInBounds_toArray, List.set_cons_succ, List.set_cons_zero])
        | (refine mix_q rfl rfl rfl (by kernel_rfl) rfl rfl rfl ?_
           apply Exists.intro
           refine ⟨fun Wm => ?_, ?_⟩
           · simp only [fin]
             skip
             intro K hK
             go_wp2_with ((go_at_call 27; (with_reducible refine (HAD.out _ (HS.out.up (HUA.out.trans (up_upOf _ _)))).mono ?_); rintro e w' ⟨rfl, hux⟩))
             refine hK _ _ ?_ ?_ ?_
             · (repeat (first | with_reducible exact Up.refl _ | with_reducible refine Up.alloc ?_ _ | with_reducible refine Up.drew ?_ | with_reducible refine Up.drewN ?_ _ | with_reducible refine Up.setCell ?_ (by (try simp) <;> omega) _ | with_reducible assumption | with_reducible refine Up.trans ?_ (by assumption)))
             · rfl
             · exact tmps_at rfl
           simp only [Act.put, List.setIfInBounds_toArray, List.set_cons_succ, List.set_cons_zero]))
      refine mix_nil ?_
      intro w4 hb_w4
      simp only [fin]
      have hu_w4 : Up wr w4 := by (repeat (first | with_reducible exact Up.refl _ | with_reducible refine Up.alloc ?_ _ | with_reducible refine Up.drew ?_ | with_reducible refine Up.drewN ?_ _ | with_reducible refine Up.setCell ?_ (by (try simp) <;> omega) _ | with_reducible assumption | with_reducible refine Up.trans ?_ (by assumption)))
      have hz_w4 := Up.size hb_w4
      try simp at hz_w4
      go_wp2_with fail
      go_roundw
      case rel => exact ⟨j + 1, by omega, by go_num, HUJ.out.trans hu_w4⟩
      case measure => simp [intOf]; omega
    · obtain rfl : j = m := by omega
      have HCU := Lib.hid (fun W (h' : SAt W p g X) => scur_is h')
      have HAL := Lib.hid (fun W (h' : SAt W p g X) => salt_is h')
      have kk1 := ((huj.at_ q zp).1 1).trans k1
      have kk5 := ((huj.at_ q zp).1 5).trans k5
      have zq : q < wr.heap.size := by omega
      have ea : (X.alt == X.alt) = true := by simp
      generalize X.alt = al at *
      generalize X.cur = cu at *
      clear huj
      go_wp2_with fail
      refine wp_region_mix (NS := []) [] rfl (by kernel_rfl) (by kernel_rfl) (by simp) (by simp) ?_
      repeat (first
        | (refine mix_skip rfl rfl ?_; simp only [Act.put, List.setIfInBounds_toArray, List.set_cons_succ, List.set_cons_zero])
        | (refine mix_q rfl rfl rfl (by kernel_rfl) rfl rfl rfl ?_
           apply Exists.intro
           refine ⟨fun Wm => ?_, ?_⟩
           · simp only [fin]
             skip
             intro K hK
             go_wp2_with ((first | (go_at_call 33; (with_reducible refine (HCU.out _ (HS.out.up (HUJ.out.trans (up_upOf _ _)))).mono ?_); rintro e w' ⟨rfl, rfl⟩) | (go_at_call 67; (with_reducible refine (HAL.out _ (HS.out.up (HUJ.out.trans (up_upOf _ _)))).mono ?_); rintro e w' ⟨rfl, rfl⟩)))
             refine hK _ _ ?_ ?_ ?_
             · (repeat (first | with_reducible exact Up.refl _ | with_reducible refine Up.alloc ?_ _ | with_reducible refine Up.drew ?_ | with_reducible refine Up.drewN ?_ _ | with_reducible refine Up.setCell ?_ (by (try simp) <;> omega) _ | with_reducible assumption | with_reducible refine Up.trans ?_ (by assumption)))
             · rfl
             · exact tmps_at rfl
           simp only [Act.put, List.setIfInBounds_toArray, List.set_cons_succ, List.set_cons_zero]))
      refine mix_nil ?_
      intro w4 hb_w4
      simp only [fin]
      have hu_w4 : Up wr w4 := by (repeat (first | with_reducible exact Up.refl _ | with_reducible refine Up.alloc ?_ _ | with_reducible refine Up.drew ?_ | with_reducible refine Up.drewN ?_ _ | with_reducible refine Up.setCell ?_ (by (try simp) <;> omega) _ | with_reducible assumption | with_reducible refine Up.trans ?_ (by assumption)))
      have hz_w4 := Up.size hb_w4
      try simp at hz_w4
      obtain ⟨bc_w4_0, bf_w4_0⟩ := hu_w4.at_ (q) (by omega)
      have zb_w4_0 : q < w4.heap.size := by omega
      go_wp2_with fail
      go_ret
      exact ⟨rfl, HUJ.out.trans hu_w4⟩
end Go.Proofs.Ytjokcfenncogkaa
