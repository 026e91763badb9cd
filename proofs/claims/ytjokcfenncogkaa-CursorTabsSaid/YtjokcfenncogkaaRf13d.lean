/-
  The document's Next: the nearest first place. No condition.
-/
import Derived.Test.YtjokcfenncogkaaRf13c
namespace Go.Proofs.Ytjokcfenncogkaa
open Go.RowKit
set_option linter.unusedVariables false
set_option linter.unusedSimpArgs false

def bfn (M wn s : Int) (F : List Int) (j : Nat) : Int × Int := (F.take j).foldl (stepN M wn s) (-1, 0)
theorem bfn_zero (M wn s : Int) (F : List Int) : bfn M wn s F 0 = (-1, 0) := rfl
theorem bfn_succ {M wn s : Int} {F : List Int} {j : Nat} {f : Int} (h : F[j]? = some f) : bfn M wn s F (j + 1) = stepN M wn s (bfn M wn s F j) f := by
  obtain ⟨hlt, he⟩ := List.getElem?_eq_some_iff.1 h
  unfold bfn
  rw [List.take_succ_eq_append_getElem hlt, List.foldl_append, he]
  rfl
theorem bfn_all {M wn s : Int} {F : List Int} {j : Nat} (h : F.length = j) : bfn M wn s F j = F.foldl (stepN M wn s) (-1, 0) := by
  unfold bfn
  rw [List.take_of_length_le (by omega)]
theorem firsts_len (X : Spc) : X.firsts.length ≤ X.L.length := by
  have h := firstsTo_len X X.attrs.length
  rw [firstsTo_all rfl] at h
  have := those_len (isAt X.L) X.L.length
  have e : X.attrs.length ≤ X.L.length := this
  omega
set_option maxRecDepth 100000 in
set_option maxHeartbeats 6400000 in
theorem rnext_f {q h : Nat} {X : Spc} {w : World} (n : Int) (hr : RAt w q h X) (ok : X.Ok) :
    Calls Try.prog 40 #[.pointer (some ⟨q, 0, none⟩), .int .i64 n, .bool false] w fun e w' => e = .returned (.int .i64 (X.find n (1))) ∧ Up w w' := by
  have HR := Lib.hid hr
  have RF := Lib.hid (rfirsts_is hr ok)
  obtain ⟨wn, hwn⟩ : ∃ wn, X.wrap n = wn := ⟨_, rfl⟩
  have hw := ok.wrap n
  rw [hwn] at hw
  have HW := Lib.hid (fun W (h' : RAt W q h X) => rwrap_at n h' ok hwn)
  have HNX := Lib.hid (next_find ok n (s := 1) (by simp))
  rw [hw.1] at HNX
  have HMEM := Lib.hid (fun (j : Nat) (f : Int) (hf : X.firsts[j]? = some f) => ((mem_firsts ok).1 (List.mem_of_getElem? hf)))
  have hln := ok.len
  obtain ⟨cap, q1, q2, k4⟩ := hr.h4
  have zp := hr.lt
  have hsm := ok.small
  have hbg := ok.big
  have hcp : (cap : Int) ≤ 9223372036854775807 := by simp [maxLen] at q2; omega
  have hfl := firsts_len X
  have hwl := hw.2
  obtain ⟨m, hm⟩ : ∃ m, X.L.length = m := ⟨_, rfl⟩
  rw [hm] at hln q1 k4 hsm hbg hfl hwl
  rw [← hln] at HNX HMEM
  obtain ⟨F, hF⟩ : ∃ F, X.firsts = F := ⟨_, rfl⟩
  rw [hF] at RF HNX HMEM hfl
  obtain ⟨nl, hnl⟩ : ∃ nl, F.length = nl := ⟨_, rfl⟩
  have HNL := Lib.hid hnl
  rw [hnl] at hfl
  have HBS := Lib.hid (fun (j : Nat) (f : Int) (hf : F[j]? = some f) => bfn_succ (M := (m : Int)) (wn := (wn : Int)) (s := 1) hf)
  have HBA := Lib.hid ((bfn_all (M := (m : Int)) (wn := (wn : Int)) (s := 1) hnl).symm)
  rw [HBA.out] at HNX
  generalize X.find n (1) = res at *
  have hm1 : 1 ≤ (m : Int) := by omega
  have hm2 : (m : Int) ≤ 4611686018427387904 := by omega
  obtain ⟨s, hs⟩ : ∃ s : Int, 1 = s := ⟨_, rfl⟩
  have HSD := Lib.hid (fun f => show distS (m : Int) (wn : Int) s f = if ((f - (wn : Int)) % (m : Int)) = 0 then (m : Int) else ((f - (wn : Int)) % (m : Int)) by rw [← hs]; unfold distS; rw [Int.one_mul])
  rw [hs] at HNX HBS
  clear hwn hw hr ok q2 hm hln hF hnl HBA hs
  go_enter Try.func40, Try.ntmps40
  go_wp2_with fail
  refine RF.out.mono ?_
  rintro e w1 ⟨A0, c0, rfl, hown0, hu1⟩
  have z1 := hu1.size
  have HU1 := Lib.hid hu1
  have HRD := Lib.hid hown0.reads
  have hc0 : (c0 : Int) ≤ 9223372036854775807 := by have := hown0.mx; simp [maxLen] at this; omega
  have hle0 := hown0.le
  have k5 := ((hu1.at_ q zp).1 4).trans k4
  have zp1 : q < w1.heap.size := by omega
  rw [HNL.out] at HRD hle0 ⊢
  clear hown0 hu1 k4
  go_wp2_with fail
  go_loopw [7, 8, 15] (fun v u i wr => ∃ j : Nat, j ≤ nl ∧ v = .int .i64 (bfn (m : Int) (wn : Int) s F j).1 ∧ u = .int .i64 (bfn (m : Int) (wn : Int) s F j).2 ∧ i = .int .i64 (j : Int) ∧ Up w1 wr) (fun _ _ i _ => nl - (intOf i).toNat)
  case atStart => exact ⟨0, by omega, rfl, rfl, rfl, Up.refl _⟩
  case round =>
    obtain ⟨j, hj, rfl, rfl, rfl, huj⟩ := hrel
    have HUJ := Lib.hid huj
    have zj := huj.size
    obtain ⟨bj, hbj⟩ : ∃ bj, bfn (m : Int) (wn : Int) s F j = bj := ⟨_, rfl⟩
    obtain ⟨b1, b2⟩ := bj
    have HBJ := Lib.hid hbj
    rw [hbj]
    clear hbj
    simp only
    by_cases hlt : j < nl
    · obtain ⟨f, hf⟩ : ∃ f, F[j]? = some f := ⟨_, List.getElem?_eq_getElem (by have := HNL.out; omega)⟩
      obtain ⟨f0, f1, -⟩ := HMEM.out j f hf
      have hrd := HRD.out.below huj
      obtain ⟨b, off, rfl, hb⟩ := hrd.form (by omega)
      obtain ⟨hbl, u, hu, hcl⟩ := hrd.at_ (j := j) (by omega)
      have hux : u = .int .i64 f := by
        unfold ns at hu
        rw [List.getElem?_map, hf] at hu
        injection hu with hu
        exact hu.symm
      subst hux
      have zb : b < wr.heap.size := by omega
      have HSJ := Lib.hid (HBS.out j f hf)
      rw [HBJ.out] at HSJ
      have HDV := Lib.hid (HSD.out f)
      have hjm : (j : Int) < (nl : Int) := by omega
      have k6 := ((huj.at_ q zp1).1 4).trans k5
      have zq : q < wr.heap.size := by omega
      have HRR := Lib.hid (HR.out.up (HU1.out.trans huj))
      clear hf hu hrd huj
      obtain ⟨dv, hdv⟩ : ∃ dv, ((f - (wn : Int)) % (m : Int)) = dv := ⟨_, rfl⟩
      rw [hdv] at HDV
      by_cases hz : dv = 0
      · subst hz
        have HDD := Lib.hid (show distS (m : Int) (wn : Int) s f = (m : Int) by rw [HDV.out]; rw [if_pos rfl])
        by_cases hb : b1 < 0
        · have HV := Lib.hid (show bfn (m : Int) (wn : Int) s F (j + 1) = (f, (m : Int)) by rw [HSJ.out]; unfold stepN; rw [if_pos (.inl hb), HDD.out])
          go_wp2_with fail
          refine wp_region_mix (NS := []) [] rfl (by kernel_rfl) (by kernel_rfl) (by simp) (by simp) ?_
          repeat (first
            | (refine mix_skip rfl rfl ?_; simp only [Act.put, List.setIfInBounds_toArray, List.set_cons_succ, List.set_cons_zero])
            | (refine mix_q rfl rfl rfl (by kernel_rfl) rfl rfl rfl ?_
               apply Exists.intro
               refine ⟨fun Wm => ?_, ?_⟩
               · simp only [fin]
                 skip
                 intro K hK
                 go_wp2_with ((first | (go_at_call 34; (with_reducible refine (HW.out _ (HRR.out.up (up_upOf _ _))).mono ?_); rintro e w' ⟨rfl, hux⟩) | (go_at_call 121; (with_reducible refine (mod_is _ _ _ hm1 hm2).mono ?_); rintro e w' ⟨rfl, rfl⟩)))
                 refine hK _ _ ?_ ?_ ?_
                 · (repeat (first | with_reducible exact Up.refl _ | with_reducible refine Up.alloc ?_ _ | with_reducible refine Up.drew ?_ | with_reducible refine Up.drewN ?_ _ | with_reducible refine Up.setCell ?_ (by (try simp) <;> omega) _ | with_reducible assumption | with_reducible refine Up.trans ?_ (by assumption)))
                 · rfl
                 · exact tmps_at rfl
               simp only [Act.put, List.setIfInBounds_toArray, List.set_cons_succ, List.set_cons_zero]))
          refine mix_nil ?_
          intro w2 hb_w2
          simp only [fin]
          have hu_w2 : Up wr w2 := by (repeat (first | with_reducible exact Up.refl _ | with_reducible refine Up.alloc ?_ _ | with_reducible refine Up.drew ?_ | with_reducible refine Up.drewN ?_ _ | with_reducible refine Up.setCell ?_ (by (try simp) <;> omega) _ | with_reducible assumption | with_reducible refine Up.trans ?_ (by assumption)))
          have hz_w2 := Up.size hb_w2
          try simp at hz_w2
          obtain ⟨bc_w2_0, bf_w2_0⟩ := hu_w2.at_ (q) (by omega)
          have zb_w2_0 : q < w2.heap.size := by omega
          go_wp2_with fail
          go_roundw
          case rel => exact ⟨j + 1, by omega, by rw [HV.out], by rw [HV.out], by go_num, HUJ.out.trans hb_w2⟩
          case measure => simp [intOf]; omega
        · by_cases hd : (m : Int) < b2
          · have HV := Lib.hid (show bfn (m : Int) (wn : Int) s F (j + 1) = (f, (m : Int)) by rw [HSJ.out]; unfold stepN; rw [if_pos (.inr (by rw [HDD.out]; exact hd)), HDD.out])
            go_wp2_with fail
            refine wp_region_mix (NS := []) [] rfl (by kernel_rfl) (by kernel_rfl) (by simp) (by simp) ?_
            repeat (first
              | (refine mix_skip rfl rfl ?_; simp only [Act.put, List.setIfInBounds_toArray, List.set_cons_succ, List.set_cons_zero])
              | (refine mix_q rfl rfl rfl (by kernel_rfl) rfl rfl rfl ?_
                 apply Exists.intro
                 refine ⟨fun Wm => ?_, ?_⟩
                 · simp only [fin]
                   skip
                   intro K hK
                   go_wp2_with ((first | (go_at_call 34; (with_reducible refine (HW.out _ (HRR.out.up (up_upOf _ _))).mono ?_); rintro e w' ⟨rfl, hux⟩) | (go_at_call 121; (with_reducible refine (mod_is _ _ _ hm1 hm2).mono ?_); rintro e w' ⟨rfl, rfl⟩)))
                   refine hK _ _ ?_ ?_ ?_
                   · (repeat (first | with_reducible exact Up.refl _ | with_reducible refine Up.alloc ?_ _ | with_reducible refine Up.drew ?_ | with_reducible refine Up.drewN ?_ _ | with_reducible refine Up.setCell ?_ (by (try simp) <;> omega) _ | with_reducible assumption | with_reducible refine Up.trans ?_ (by assumption)))
                   · rfl
                   · exact tmps_at rfl
                 simp only [Act.put, List.setIfInBounds_toArray, List.set_cons_succ, List.set_cons_zero]))
            refine mix_nil ?_
            intro w2 hb_w2
            simp only [fin]
            have hu_w2 : Up wr w2 := by (repeat (first | with_reducible exact Up.refl _ | with_reducible refine Up.alloc ?_ _ | with_reducible refine Up.drew ?_ | with_reducible refine Up.drewN ?_ _ | with_reducible refine Up.setCell ?_ (by (try simp) <;> omega) _ | with_reducible assumption | with_reducible refine Up.trans ?_ (by assumption)))
            have hz_w2 := Up.size hb_w2
            try simp at hz_w2
            obtain ⟨bc_w2_0, bf_w2_0⟩ := hu_w2.at_ (q) (by omega)
            have zb_w2_0 : q < w2.heap.size := by omega
            go_wp2_with fail
            go_roundw
            case rel => exact ⟨j + 1, by omega, by rw [HV.out], by rw [HV.out], by go_num, HUJ.out.trans hb_w2⟩
            case measure => simp [intOf]; omega
          · have HV := Lib.hid (show bfn (m : Int) (wn : Int) s F (j + 1) = (b1, b2) by rw [HSJ.out]; unfold stepN; rw [if_neg (by rw [HDD.out]; intro e; rcases e with e | e; exact hb e; exact hd e)])
            go_wp2_with fail
            refine wp_region_mix (NS := []) [] rfl (by kernel_rfl) (by kernel_rfl) (by simp) (by simp) ?_
            repeat (first
              | (refine mix_skip rfl rfl ?_; simp only [Act.put, List.setIfInBounds_toArray, List.set_cons_succ, List.set_cons_zero])
              | (refine mix_q rfl rfl rfl (by kernel_rfl) rfl rfl rfl ?_
                 apply Exists.intro
                 refine ⟨fun Wm => ?_, ?_⟩
                 · simp only [fin]
                   skip
                   intro K hK
                   go_wp2_with ((first | (go_at_call 34; (with_reducible refine (HW.out _ (HRR.out.up (up_upOf _ _))).mono ?_); rintro e w' ⟨rfl, hux⟩) | (go_at_call 121; (with_reducible refine (mod_is _ _ _ hm1 hm2).mono ?_); rintro e w' ⟨rfl, rfl⟩)))
                   refine hK _ _ ?_ ?_ ?_
                   · (repeat (first | with_reducible exact Up.refl _ | with_reducible refine Up.alloc ?_ _ | with_reducible refine Up.drew ?_ | with_reducible refine Up.drewN ?_ _ | with_reducible refine Up.setCell ?_ (by (try simp) <;> omega) _ | with_reducible assumption | with_reducible refine Up.trans ?_ (by assumption)))
                   · rfl
                   · exact tmps_at rfl
                 simp only [Act.put, List.setIfInBounds_toArray, List.set_cons_succ, List.set_cons_zero]))
            refine mix_nil ?_
            intro w2 hb_w2
            simp only [fin]
            have hu_w2 : Up wr w2 := by (repeat (first | with_reducible exact Up.refl _ | with_reducible refine Up.alloc ?_ _ | with_reducible refine Up.drew ?_ | with_reducible refine Up.drewN ?_ _ | with_reducible refine Up.setCell ?_ (by (try simp) <;> omega) _ | with_reducible assumption | with_reducible refine Up.trans ?_ (by assumption)))
            have hz_w2 := Up.size hb_w2
            try simp at hz_w2
            obtain ⟨bc_w2_0, bf_w2_0⟩ := hu_w2.at_ (q) (by omega)
            have zb_w2_0 : q < w2.heap.size := by omega
            go_wp2_with fail
            go_roundw
            case rel => exact ⟨j + 1, by omega, by rw [HV.out], by rw [HV.out], by go_num, HUJ.out.trans hb_w2⟩
            case measure => simp [intOf]; omega
      · have hze : (dv == 0) = false := by simpa using hz
        have HDD := Lib.hid (show distS (m : Int) (wn : Int) s f = dv by rw [HDV.out]; rw [if_neg hz])
        by_cases hb : b1 < 0
        · have HV := Lib.hid (show bfn (m : Int) (wn : Int) s F (j + 1) = (f, dv) by rw [HSJ.out]; unfold stepN; rw [if_pos (.inl hb), HDD.out])
          go_wp2_with fail
          refine wp_region_mix (NS := []) [] rfl (by kernel_rfl) (by kernel_rfl) (by simp) (by simp) ?_
          repeat (first
            | (refine mix_skip rfl rfl ?_; simp only [Act.put, List.setIfInBounds_toArray, List.set_cons_succ, List.set_cons_zero])
            | (refine mix_q rfl rfl rfl (by kernel_rfl) rfl rfl rfl ?_
               apply Exists.intro
               refine ⟨fun Wm => ?_, ?_⟩
               · simp only [fin]
                 skip
                 intro K hK
                 go_wp2_with ((first | (go_at_call 34; (with_reducible refine (HW.out _ (HRR.out.up (up_upOf _ _))).mono ?_); rintro e w' ⟨rfl, hux⟩) | (go_at_call 121; (with_reducible refine (mod_is _ _ _ hm1 hm2).mono ?_); rintro e w' ⟨rfl, rfl⟩)))
                 refine hK _ _ ?_ ?_ ?_
                 · (repeat (first | with_reducible exact Up.refl _ | with_reducible refine Up.alloc ?_ _ | with_reducible refine Up.drew ?_ | with_reducible refine Up.drewN ?_ _ | with_reducible refine Up.setCell ?_ (by (try simp) <;> omega) _ | with_reducible assumption | with_reducible refine Up.trans ?_ (by assumption)))
                 · rfl
                 · exact tmps_at rfl
               simp only [Act.put, List.setIfInBounds_toArray, List.set_cons_succ, List.set_cons_zero]))
          refine mix_nil ?_
          intro w2 hb_w2
          simp only [fin]
          have hu_w2 : Up wr w2 := by (repeat (first | with_reducible exact Up.refl _ | with_reducible refine Up.alloc ?_ _ | with_reducible refine Up.drew ?_ | with_reducible refine Up.drewN ?_ _ | with_reducible refine Up.setCell ?_ (by (try simp) <;> omega) _ | with_reducible assumption | with_reducible refine Up.trans ?_ (by assumption)))
          have hz_w2 := Up.size hb_w2
          try simp at hz_w2
          obtain ⟨bc_w2_0, bf_w2_0⟩ := hu_w2.at_ (q) (by omega)
          have zb_w2_0 : q < w2.heap.size := by omega
          go_wp2_with fail
          go_roundw
          case rel => exact ⟨j + 1, by omega, by rw [HV.out], by rw [HV.out], by go_num, HUJ.out.trans hb_w2⟩
          case measure => simp [intOf]; omega
        · by_cases hd : dv < b2
          · have HV := Lib.hid (show bfn (m : Int) (wn : Int) s F (j + 1) = (f, dv) by rw [HSJ.out]; unfold stepN; rw [if_pos (.inr (by rw [HDD.out]; exact hd)), HDD.out])
            go_wp2_with fail
            refine wp_region_mix (NS := []) [] rfl (by kernel_rfl) (by kernel_rfl) (by simp) (by simp) ?_
            repeat (first
              | (refine mix_skip rfl rfl ?_; simp only [Act.put, List.setIfInBounds_toArray, List.set_cons_succ, List.set_cons_zero])
              | (refine mix_q rfl rfl rfl (by kernel_rfl) rfl rfl rfl ?_
                 apply Exists.intro
                 refine ⟨fun Wm => ?_, ?_⟩
                 · simp only [fin]
                   skip
                   intro K hK
                   go_wp2_with ((first | (go_at_call 34; (with_reducible refine (HW.out _ (HRR.out.up (up_upOf _ _))).mono ?_); rintro e w' ⟨rfl, hux⟩) | (go_at_call 121; (with_reducible refine (mod_is _ _ _ hm1 hm2).mono ?_); rintro e w' ⟨rfl, rfl⟩)))
                   refine hK _ _ ?_ ?_ ?_
                   · (repeat (first | with_reducible exact Up.refl _ | with_reducible refine Up.alloc ?_ _ | with_reducible refine Up.drew ?_ | with_reducible refine Up.drewN ?_ _ | with_reducible refine Up.setCell ?_ (by (try simp) <;> omega) _ | with_reducible assumption | with_reducible refine Up.trans ?_ (by assumption)))
                   · rfl
                   · exact tmps_at rfl
                 simp only [Act.put, List.setIfInBounds_toArray, List.set_cons_succ, List.set_cons_zero]))
            refine mix_nil ?_
            intro w2 hb_w2
            simp only [fin]
            have hu_w2 : Up wr w2 := by (repeat (first | with_reducible exact Up.refl _ | with_reducible refine Up.alloc ?_ _ | with_reducible refine Up.drew ?_ | with_reducible refine Up.drewN ?_ _ | with_reducible refine Up.setCell ?_ (by (try simp) <;> omega) _ | with_reducible assumption | with_reducible refine Up.trans ?_ (by assumption)))
            have hz_w2 := Up.size hb_w2
            try simp at hz_w2
            obtain ⟨bc_w2_0, bf_w2_0⟩ := hu_w2.at_ (q) (by omega)
            have zb_w2_0 : q < w2.heap.size := by omega
            go_wp2_with fail
            go_roundw
            case rel => exact ⟨j + 1, by omega, by rw [HV.out], by rw [HV.out], by go_num, HUJ.out.trans hb_w2⟩
            case measure => simp [intOf]; omega
          · have HV := Lib.hid (show bfn (m : Int) (wn : Int) s F (j + 1) = (b1, b2) by rw [HSJ.out]; unfold stepN; rw [if_neg (by rw [HDD.out]; intro e; rcases e with e | e; exact hb e; exact hd e)])
            go_wp2_with fail
            refine wp_region_mix (NS := []) [] rfl (by kernel_rfl) (by kernel_rfl) (by simp) (by simp) ?_
            repeat (first
              | (refine mix_skip rfl rfl ?_; simp only [Act.put, List.setIfInBounds_toArray, List.set_cons_succ, List.set_cons_zero])
              | (refine mix_q rfl rfl rfl (by kernel_rfl) rfl rfl rfl ?_
                 apply Exists.intro
                 refine ⟨fun Wm => ?_, ?_⟩
                 · simp only [fin]
                   skip
                   intro K hK
                   go_wp2_with ((first | (go_at_call 34; (with_reducible refine (HW.out _ (HRR.out.up (up_upOf _ _))).mono ?_); rintro e w' ⟨rfl, hux⟩) | (go_at_call 121; (with_reducible refine (mod_is _ _ _ hm1 hm2).mono ?_); rintro e w' ⟨rfl, rfl⟩)))
                   refine hK _ _ ?_ ?_ ?_
                   · (repeat (first | with_reducible exact Up.refl _ | with_reducible refine Up.alloc ?_ _ | with_reducible refine Up.drew ?_ | with_reducible refine Up.drewN ?_ _ | with_reducible refine Up.setCell ?_ (by (try simp) <;> omega) _ | with_reducible assumption | with_reducible refine Up.trans ?_ (by assumption)))
                   · rfl
                   · exact tmps_at rfl
                 simp only [Act.put, List.setIfInBounds_toArray, List.set_cons_succ, List.set_cons_zero]))
            refine mix_nil ?_
            intro w2 hb_w2
            simp only [fin]
            have hu_w2 : Up wr w2 := by (repeat (first | with_reducible exact Up.refl _ | with_reducible refine Up.alloc ?_ _ | with_reducible refine Up.drew ?_ | with_reducible refine Up.drewN ?_ _ | with_reducible refine Up.setCell ?_ (by (try simp) <;> omega) _ | with_reducible assumption | with_reducible refine Up.trans ?_ (by assumption)))
            have hz_w2 := Up.size hb_w2
            try simp at hz_w2
            obtain ⟨bc_w2_0, bf_w2_0⟩ := hu_w2.at_ (q) (by omega)
            have zb_w2_0 : q < w2.heap.size := by omega
            go_wp2_with fail
            go_roundw
            case rel => exact ⟨j + 1, by omega, by rw [HV.out], by rw [HV.out], by go_num, HUJ.out.trans hb_w2⟩
            case measure => simp [intOf]; omega
    · obtain rfl : j = nl := by omega
      have HA := Lib.hid HNX.out
      rw [HBJ.out] at HA
      go_wp2_with fail
      go_ret
      exact ⟨by rw [← HA.out]; rfl, HU1.out.trans HUJ.out⟩
set_option maxRecDepth 100000 in
set_option maxHeartbeats 6400000 in
theorem rnext_b {q h : Nat} {X : Spc} {w : World} (n : Int) (hr : RAt w q h X) (ok : X.Ok) :
    Calls Try.prog 40 #[.pointer (some ⟨q, 0, none⟩), .int .i64 n, .bool true] w fun e w' => e = .returned (.int .i64 (X.find n (-1))) ∧ Up w w' := by
  have HR := Lib.hid hr
  have RF := Lib.hid (rfirsts_is hr ok)
  obtain ⟨wn, hwn⟩ : ∃ wn, X.wrap n = wn := ⟨_, rfl⟩
  have hw := ok.wrap n
  rw [hwn] at hw
  have HW := Lib.hid (fun W (h' : RAt W q h X) => rwrap_at n h' ok hwn)
  have HNX := Lib.hid (next_find ok n (s := -1) (by simp))
  rw [hw.1] at HNX
  have HMEM := Lib.hid (fun (j : Nat) (f : Int) (hf : X.firsts[j]? = some f) => ((mem_firsts ok).1 (List.mem_of_getElem? hf)))
  have hln := ok.len
  obtain ⟨cap, q1, q2, k4⟩ := hr.h4
  have zp := hr.lt
  have hsm := ok.small
  have hbg := ok.big
  have hcp : (cap : Int) ≤ 9223372036854775807 := by simp [maxLen] at q2; omega
  have hfl := firsts_len X
  have hwl := hw.2
  obtain ⟨m, hm⟩ : ∃ m, X.L.length = m := ⟨_, rfl⟩
  rw [hm] at hln q1 k4 hsm hbg hfl hwl
  rw [← hln] at HNX HMEM
  obtain ⟨F, hF⟩ : ∃ F, X.firsts = F := ⟨_, rfl⟩
  rw [hF] at RF HNX HMEM hfl
  obtain ⟨nl, hnl⟩ : ∃ nl, F.length = nl := ⟨_, rfl⟩
  have HNL := Lib.hid hnl
  rw [hnl] at hfl
  have HBS := Lib.hid (fun (j : Nat) (f : Int) (hf : F[j]? = some f) => bfn_succ (M := (m : Int)) (wn := (wn : Int)) (s := -1) hf)
  have HBA := Lib.hid ((bfn_all (M := (m : Int)) (wn := (wn : Int)) (s := -1) hnl).symm)
  rw [HBA.out] at HNX
  generalize X.find n (-1) = res at *
  have hm1 : 1 ≤ (m : Int) := by omega
  have hm2 : (m : Int) ≤ 4611686018427387904 := by omega
  obtain ⟨s, hs⟩ : ∃ s : Int, -1 = s := ⟨_, rfl⟩
  have HSD := Lib.hid (fun f => show distS (m : Int) (wn : Int) s f = if (((wn : Int) - f) % (m : Int)) = 0 then (m : Int) else (((wn : Int) - f) % (m : Int)) by rw [← hs]; unfold distS; rw [show -1 * (f - (wn : Int)) = (wn : Int) - f by omega])
  rw [hs] at HNX HBS
  clear hwn hw hr ok q2 hm hln hF hnl HBA hs
  go_enter Try.func40, Try.ntmps40
  go_wp2_with fail
  refine RF.out.mono ?_
  rintro e w1 ⟨A0, c0, rfl, hown0, hu1⟩
  have z1 := hu1.size
  have HU1 := Lib.hid hu1
  have HRD := Lib.hid hown0.reads
  have hc0 : (c0 : Int) ≤ 9223372036854775807 := by have := hown0.mx; simp [maxLen] at this; omega
  have hle0 := hown0.le
  have k5 := ((hu1.at_ q zp).1 4).trans k4
  have zp1 : q < w1.heap.size := by omega
  rw [HNL.out] at HRD hle0 ⊢
  clear hown0 hu1 k4
  go_wp2_with fail
  go_loopw [7, 8, 15] (fun v u i wr => ∃ j : Nat, j ≤ nl ∧ v = .int .i64 (bfn (m : Int) (wn : Int) s F j).1 ∧ u = .int .i64 (bfn (m : Int) (wn : Int) s F j).2 ∧ i = .int .i64 (j : Int) ∧ Up w1 wr) (fun _ _ i _ => nl - (intOf i).toNat)
  case atStart => exact ⟨0, by omega, rfl, rfl, rfl, Up.refl _⟩
  case round =>
    obtain ⟨j, hj, rfl, rfl, rfl, huj⟩ := hrel
    have HUJ := Lib.hid huj
    have zj := huj.size
    obtain ⟨bj, hbj⟩ : ∃ bj, bfn (m : Int) (wn : Int) s F j = bj := ⟨_, rfl⟩
    obtain ⟨b1, b2⟩ := bj
    have HBJ := Lib.hid hbj
    rw [hbj]
    clear hbj
    simp only
    by_cases hlt : j < nl
    · obtain ⟨f, hf⟩ : ∃ f, F[j]? = some f := ⟨_, List.getElem?_eq_getElem (by have := HNL.out; omega)⟩
      obtain ⟨f0, f1, -⟩ := HMEM.out j f hf
      have hrd := HRD.out.below huj
      obtain ⟨b, off, rfl, hb⟩ := hrd.form (by omega)
      obtain ⟨hbl, u, hu, hcl⟩ := hrd.at_ (j := j) (by omega)
      have hux : u = .int .i64 f := by
        unfold ns at hu
        rw [List.getElem?_map, hf] at hu
        injection hu with hu
        exact hu.symm
      subst hux
      have zb : b < wr.heap.size := by omega
      have HSJ := Lib.hid (HBS.out j f hf)
      rw [HBJ.out] at HSJ
      have HDV := Lib.hid (HSD.out f)
      have hjm : (j : Int) < (nl : Int) := by omega
      have k6 := ((huj.at_ q zp1).1 4).trans k5
      have zq : q < wr.heap.size := by omega
      have HRR := Lib.hid (HR.out.up (HU1.out.trans huj))
      clear hf hu hrd huj
      obtain ⟨dv, hdv⟩ : ∃ dv, (((wn : Int) - f) % (m : Int)) = dv := ⟨_, rfl⟩
      rw [hdv] at HDV
      by_cases hz : dv = 0
      · subst hz
        have HDD := Lib.hid (show distS (m : Int) (wn : Int) s f = (m : Int) by rw [HDV.out]; rw [if_pos rfl])
        by_cases hb : b1 < 0
        · have HV := Lib.hid (show bfn (m : Int) (wn : Int) s F (j + 1) = (f, (m : Int)) by rw [HSJ.out]; unfold stepN; rw [if_pos (.inl hb), HDD.out])
          go_wp2_with fail
          refine wp_region_mix (NS := []) [] rfl (by kernel_rfl) (by kernel_rfl) (by simp) (by simp) ?_
          repeat (first
            | (refine mix_skip rfl rfl ?_; simp only [Act.put, List.setIfInBounds_toArray, List.set_cons_succ, List.set_cons_zero])
            | (refine mix_q rfl rfl rfl (by kernel_rfl) rfl rfl rfl ?_
               apply Exists.intro
               refine ⟨fun Wm => ?_, ?_⟩
               · simp only [fin]
                 skip
                 intro K hK
                 go_wp2_with ((first | (go_at_call 34; (with_reducible refine (HW.out _ (HRR.out.up (up_upOf _ _))).mono ?_); rintro e w' ⟨rfl, hux⟩) | (go_at_call 121; (with_reducible refine (mod_is _ _ _ hm1 hm2).mono ?_); rintro e w' ⟨rfl, rfl⟩)))
                 refine hK _ _ ?_ ?_ ?_
                 · (repeat (first | with_reducible exact Up.refl _ | with_reducible refine Up.alloc ?_ _ | with_reducible refine Up.drew ?_ | with_reducible refine Up.drewN ?_ _ | with_reducible refine Up.setCell ?_ (by (try simp) <;> omega) _ | with_reducible assumption | with_reducible refine Up.trans ?_ (by assumption)))
                 · rfl
                 · exact tmps_at rfl
               simp only [Act.put, List.setIfInBounds_toArray, List.set_cons_succ, List.set_cons_zero]))
          refine mix_nil ?_
          intro w2 hb_w2
          simp only [fin]
          have hu_w2 : Up wr w2 := by (repeat (first | with_reducible exact Up.refl _ | with_reducible refine Up.alloc ?_ _ | with_reducible refine Up.drew ?_ | with_reducible refine Up.drewN ?_ _ | with_reducible refine Up.setCell ?_ (by (try simp) <;> omega) _ | with_reducible assumption | with_reducible refine Up.trans ?_ (by assumption)))
          have hz_w2 := Up.size hb_w2
          try simp at hz_w2
          obtain ⟨bc_w2_0, bf_w2_0⟩ := hu_w2.at_ (q) (by omega)
          have zb_w2_0 : q < w2.heap.size := by omega
          go_wp2_with fail
          refine wp_region_mix (NS := []) [] rfl (by kernel_rfl) (by kernel_rfl) (by simp) (by simp) ?_
          repeat (first
            | (refine mix_skip rfl rfl ?_; simp only [Act.put, List.setIfInBounds_toArray, List.set_cons_succ, List.set_cons_zero])
            | (refine mix_q rfl rfl rfl (by kernel_rfl) rfl rfl rfl ?_
               apply Exists.intro
               refine ⟨fun Wm => ?_, ?_⟩
               · simp only [fin]
                 skip
                 intro K hK
                 go_wp2_with ((first | (go_at_call 34; (with_reducible refine (HW.out _ (HRR.out.up (hu_w2.trans (up_upOf _ _)))).mono ?_); rintro e w' ⟨rfl, hux⟩) | (go_at_call 121; (with_reducible refine (mod_is _ _ _ hm1 hm2).mono ?_); rintro e w' ⟨rfl, rfl⟩)))
                 refine hK _ _ ?_ ?_ ?_
                 · (repeat (first | with_reducible exact Up.refl _ | with_reducible refine Up.alloc ?_ _ | with_reducible refine Up.drew ?_ | with_reducible refine Up.drewN ?_ _ | with_reducible refine Up.setCell ?_ (by (try simp) <;> omega) _ | with_reducible assumption | with_reducible refine Up.trans ?_ (by assumption)))
                 · rfl
                 · exact tmps_at rfl
               simp only [Act.put, List.setIfInBounds_toArray, List.set_cons_succ, List.set_cons_zero]))
          refine mix_nil ?_
          intro w3 hb_w3
          simp only [fin]
          have hu_w3 : Up w2 w3 := by (repeat (first | with_reducible exact Up.refl _ | with_reducible refine Up.alloc ?_ _ | with_reducible refine Up.drew ?_ | with_reducible refine Up.drewN ?_ _ | with_reducible refine Up.setCell ?_ (by (try simp) <;> omega) _ | with_reducible assumption | with_reducible refine Up.trans ?_ (by assumption)))
          have hz_w3 := Up.size hb_w3
          try simp at hz_w3
          obtain ⟨bc_w3_0, bf_w3_0⟩ := hu_w3.at_ (q) (by omega)
          have zb_w3_0 : q < w3.heap.size := by omega
          go_wp2_with fail
          go_roundw
          case rel => exact ⟨j + 1, by omega, by rw [HV.out], by rw [HV.out], by go_num, HUJ.out.trans (hb_w2.trans hb_w3)⟩
          case measure => simp [intOf]; omega
        · by_cases hd : (m : Int) < b2
          · have HV := Lib.hid (show bfn (m : Int) (wn : Int) s F (j + 1) = (f, (m : Int)) by rw [HSJ.out]; unfold stepN; rw [if_pos (.inr (by rw [HDD.out]; exact hd)), HDD.out])
            go_wp2_with fail
            refine wp_region_mix (NS := []) [] rfl (by kernel_rfl) (by kernel_rfl) (by simp) (by simp) ?_
            repeat (first
              | (refine mix_skip rfl rfl ?_; simp only [Act.put, List.setIfInBounds_toArray, List.set_cons_succ, List.set_cons_zero])
              | (refine mix_q rfl rfl rfl (by kernel_rfl) rfl rfl rfl ?_
                 apply Exists.intro
                 refine ⟨fun Wm => ?_, ?_⟩
                 · simp only [fin]
                   skip
                   intro K hK
                   go_wp2_with ((first | (go_at_call 34; (with_reducible refine (HW.out _ (HRR.out.up (up_upOf _ _))).mono ?_); rintro e w' ⟨rfl, hux⟩) | (go_at_call 121; (with_reducible refine (mod_is _ _ _ hm1 hm2).mono ?_); rintro e w' ⟨rfl, rfl⟩)))
                   refine hK _ _ ?_ ?_ ?_
                   · (repeat (first | with_reducible exact Up.refl _ | with_reducible refine Up.alloc ?_ _ | with_reducible refine Up.drew ?_ | with_reducible refine Up.drewN ?_ _ | with_reducible refine Up.setCell ?_ (by (try simp) <;> omega) _ | with_reducible assumption | with_reducible refine Up.trans ?_ (by assumption)))
                   · rfl
                   · exact tmps_at rfl
                 simp only [Act.put, List.setIfInBounds_toArray, List.set_cons_succ, List.set_cons_zero]))
            refine mix_nil ?_
            intro w2 hb_w2
            simp only [fin]
            have hu_w2 : Up wr w2 := by (repeat (first | with_reducible exact Up.refl _ | with_reducible refine Up.alloc ?_ _ | with_reducible refine Up.drew ?_ | with_reducible refine Up.drewN ?_ _ | with_reducible refine Up.setCell ?_ (by (try simp) <;> omega) _ | with_reducible assumption | with_reducible refine Up.trans ?_ (by assumption)))
            have hz_w2 := Up.size hb_w2
            try simp at hz_w2
            obtain ⟨bc_w2_0, bf_w2_0⟩ := hu_w2.at_ (q) (by omega)
            have zb_w2_0 : q < w2.heap.size := by omega
            go_wp2_with fail
            refine wp_region_mix (NS := []) [] rfl (by kernel_rfl) (by kernel_rfl) (by simp) (by simp) ?_
            repeat (first
              | (refine mix_skip rfl rfl ?_; simp only [Act.put, List.setIfInBounds_toArray, List.set_cons_succ, List.set_cons_zero])
              | (refine mix_q rfl rfl rfl (by kernel_rfl) rfl rfl rfl ?_
                 apply Exists.intro
                 refine ⟨fun Wm => ?_, ?_⟩
                 · simp only [fin]
                   skip
                   intro K hK
                   go_wp2_with ((first | (go_at_call 34; (with_reducible refine (HW.out _ (HRR.out.up (hu_w2.trans (up_upOf _ _)))).mono ?_); rintro e w' ⟨rfl, hux⟩) | (go_at_call 121; (with_reducible refine (mod_is _ _ _ hm1 hm2).mono ?_); rintro e w' ⟨rfl, rfl⟩)))
                   refine hK _ _ ?_ ?_ ?_
                   · (repeat (first | with_reducible exact Up.refl _ | with_reducible refine Up.alloc ?_ _ | with_reducible refine Up.drew ?_ | with_reducible refine Up.drewN ?_ _ | with_reducible refine Up.setCell ?_ (by (try simp) <;> omega) _ | with_reducible assumption | with_reducible refine Up.trans ?_ (by assumption)))
                   · rfl
                   · exact tmps_at rfl
                 simp only [Act.put, List.setIfInBounds_toArray, List.set_cons_succ, List.set_cons_zero]))
            refine mix_nil ?_
            intro w3 hb_w3
            simp only [fin]
            have hu_w3 : Up w2 w3 := by (repeat (first | with_reducible exact Up.refl _ | with_reducible refine Up.alloc ?_ _ | with_reducible refine Up.drew ?_ | with_reducible refine Up.drewN ?_ _ | with_reducible refine Up.setCell ?_ (by (try simp) <;> omega) _ | with_reducible assumption | with_reducible refine Up.trans ?_ (by assumption)))
            have hz_w3 := Up.size hb_w3
            try simp at hz_w3
            obtain ⟨bc_w3_0, bf_w3_0⟩ := hu_w3.at_ (q) (by omega)
            have zb_w3_0 : q < w3.heap.size := by omega
            go_wp2_with fail
            go_roundw
            case rel => exact ⟨j + 1, by omega, by rw [HV.out], by rw [HV.out], by go_num, HUJ.out.trans (hb_w2.trans hb_w3)⟩
            case measure => simp [intOf]; omega
          · have HV := Lib.hid (show bfn (m : Int) (wn : Int) s F (j + 1) = (b1, b2) by rw [HSJ.out]; unfold stepN; rw [if_neg (by rw [HDD.out]; intro e; rcases e with e | e; exact hb e; exact hd e)])
            go_wp2_with fail
            refine wp_region_mix (NS := []) [] rfl (by kernel_rfl) (by kernel_rfl) (by simp) (by simp) ?_
            repeat (first
              | (refine mix_skip rfl rfl ?_; simp only [Act.put, List.setIfInBounds_toArray, List.set_cons_succ, List.set_cons_zero])
              | (refine mix_q rfl rfl rfl (by kernel_rfl) rfl rfl rfl ?_
                 apply Exists.intro
                 refine ⟨fun Wm => ?_, ?_⟩
                 · simp only [fin]
                   skip
                   intro K hK
                   go_wp2_with ((first | (go_at_call 34; (with_reducible refine (HW.out _ (HRR.out.up (up_upOf _ _))).mono ?_); rintro e w' ⟨rfl, hux⟩) | (go_at_call 121; (with_reducible refine (mod_is _ _ _ hm1 hm2).mono ?_); rintro e w' ⟨rfl, rfl⟩)))
                   refine hK _ _ ?_ ?_ ?_
                   · (repeat (first | with_reducible exact Up.refl _ | with_reducible refine Up.alloc ?_ _ | with_reducible refine Up.drew ?_ | with_reducible refine Up.drewN ?_ _ | with_reducible refine Up.setCell ?_ (by (try simp) <;> omega) _ | with_reducible assumption | with_reducible refine Up.trans ?_ (by assumption)))
                   · rfl
                   · exact tmps_at rfl
                 simp only [Act.put, List.setIfInBounds_toArray, List.set_cons_succ, List.set_cons_zero]))
            refine mix_nil ?_
            intro w2 hb_w2
            simp only [fin]
            have hu_w2 : Up wr w2 := by (repeat (first | with_reducible exact Up.refl _ | with_reducible refine Up.alloc ?_ _ | with_reducible refine Up.drew ?_ | with_reducible refine Up.drewN ?_ _ | with_reducible refine Up.setCell ?_ (by (try simp) <;> omega) _ | with_reducible assumption | with_reducible refine Up.trans ?_ (by assumption)))
            have hz_w2 := Up.size hb_w2
            try simp at hz_w2
            obtain ⟨bc_w2_0, bf_w2_0⟩ := hu_w2.at_ (q) (by omega)
            have zb_w2_0 : q < w2.heap.size := by omega
            go_wp2_with fail
            refine wp_region_mix (NS := []) [] rfl (by kernel_rfl) (by kernel_rfl) (by simp) (by simp) ?_
            repeat (first
              | (refine mix_skip rfl rfl ?_; simp only [Act.put, List.setIfInBounds_toArray, List.set_cons_succ, List.set_cons_zero])
              | (refine mix_q rfl rfl rfl (by kernel_rfl) rfl rfl rfl ?_
                 apply Exists.intro
                 refine ⟨fun Wm => ?_, ?_⟩
                 · simp only [fin]
                   skip
                   intro K hK
                   go_wp2_with ((first | (go_at_call 34; (with_reducible refine (HW.out _ (HRR.out.up (hu_w2.trans (up_upOf _ _)))).mono ?_); rintro e w' ⟨rfl, hux⟩) | (go_at_call 121; (with_reducible refine (mod_is _ _ _ hm1 hm2).mono ?_); rintro e w' ⟨rfl, rfl⟩)))
                   refine hK _ _ ?_ ?_ ?_
                   · (repeat (first | with_reducible exact Up.refl _ | with_reducible refine Up.alloc ?_ _ | with_reducible refine Up.drew ?_ | with_reducible refine Up.drewN ?_ _ | with_reducible refine Up.setCell ?_ (by (try simp) <;> omega) _ | with_reducible assumption | with_reducible refine Up.trans ?_ (by assumption)))
                   · rfl
                   · exact tmps_at rfl
                 simp only [Act.put, List.setIfInBounds_toArray, List.set_cons_succ, List.set_cons_zero]))
            refine mix_nil ?_
            intro w3 hb_w3
            simp only [fin]
            have hu_w3 : Up w2 w3 := by (repeat (first | with_reducible exact Up.refl _ | with_reducible refine Up.alloc ?_ _ | with_reducible refine Up.drew ?_ | with_reducible refine Up.drewN ?_ _ | with_reducible refine Up.setCell ?_ (by (try simp) <;> omega) _ | with_reducible assumption | with_reducible refine Up.trans ?_ (by assumption)))
            have hz_w3 := Up.size hb_w3
            try simp at hz_w3
            obtain ⟨bc_w3_0, bf_w3_0⟩ := hu_w3.at_ (q) (by omega)
            have zb_w3_0 : q < w3.heap.size := by omega
            go_wp2_with fail
            go_roundw
            case rel => exact ⟨j + 1, by omega, by rw [HV.out], by rw [HV.out], by go_num, HUJ.out.trans (hb_w2.trans hb_w3)⟩
            case measure => simp [intOf]; omega
      · have hze : (dv == 0) = false := by simpa using hz
        have HDD := Lib.hid (show distS (m : Int) (wn : Int) s f = dv by rw [HDV.out]; rw [if_neg hz])
        by_cases hb : b1 < 0
        · have HV := Lib.hid (show bfn (m : Int) (wn : Int) s F (j + 1) = (f, dv) by rw [HSJ.out]; unfold stepN; rw [if_pos (.inl hb), HDD.out])
          go_wp2_with fail
          refine wp_region_mix (NS := []) [] rfl (by kernel_rfl) (by kernel_rfl) (by simp) (by simp) ?_
          repeat (first
            | (refine mix_skip rfl rfl ?_; simp only [Act.put, List.setIfInBounds_toArray, List.set_cons_succ, List.set_cons_zero])
            | (refine mix_q rfl rfl rfl (by kernel_rfl) rfl rfl rfl ?_
               apply Exists.intro
               refine ⟨fun Wm => ?_, ?_⟩
               · simp only [fin]
                 skip
                 intro K hK
                 go_wp2_with ((first | (go_at_call 34; (with_reducible refine (HW.out _ (HRR.out.up (up_upOf _ _))).mono ?_); rintro e w' ⟨rfl, hux⟩) | (go_at_call 121; (with_reducible refine (mod_is _ _ _ hm1 hm2).mono ?_); rintro e w' ⟨rfl, rfl⟩)))
                 refine hK _ _ ?_ ?_ ?_
                 · (repeat (first | with_reducible exact Up.refl _ | with_reducible refine Up.alloc ?_ _ | with_reducible refine Up.drew ?_ | with_reducible refine Up.drewN ?_ _ | with_reducible refine Up.setCell ?_ (by (try simp) <;> omega) _ | with_reducible assumption | with_reducible refine Up.trans ?_ (by assumption)))
                 · rfl
                 · exact tmps_at rfl
               simp only [Act.put, List.setIfInBounds_toArray, List.set_cons_succ, List.set_cons_zero]))
          refine mix_nil ?_
          intro w2 hb_w2
          simp only [fin]
          have hu_w2 : Up wr w2 := by (repeat (first | with_reducible exact Up.refl _ | with_reducible refine Up.alloc ?_ _ | with_reducible refine Up.drew ?_ | with_reducible refine Up.drewN ?_ _ | with_reducible refine Up.setCell ?_ (by (try simp) <;> omega) _ | with_reducible assumption | with_reducible refine Up.trans ?_ (by assumption)))
          have hz_w2 := Up.size hb_w2
          try simp at hz_w2
          obtain ⟨bc_w2_0, bf_w2_0⟩ := hu_w2.at_ (q) (by omega)
          have zb_w2_0 : q < w2.heap.size := by omega
          go_wp2_with fail
          refine wp_region_mix (NS := []) [] rfl (by kernel_rfl) (by kernel_rfl) (by simp) (by simp) ?_
          repeat (first
            | (refine mix_skip rfl rfl ?_; simp only [Act.put, List.setIfInBounds_toArray, List.set_cons_succ, List.set_cons_zero])
            | (refine mix_q rfl rfl rfl (by kernel_rfl) rfl rfl rfl ?_
               apply Exists.intro
               refine ⟨fun Wm => ?_, ?_⟩
               · simp only [fin]
                 skip
                 intro K hK
                 go_wp2_with ((first | (go_at_call 34; (with_reducible refine (HW.out _ (HRR.out.up (hu_w2.trans (up_upOf _ _)))).mono ?_); rintro e w' ⟨rfl, hux⟩) | (go_at_call 121; (with_reducible refine (mod_is _ _ _ hm1 hm2).mono ?_); rintro e w' ⟨rfl, rfl⟩)))
                 refine hK _ _ ?_ ?_ ?_
                 · (repeat (first | with_reducible exact Up.refl _ | with_reducible refine Up.alloc ?_ _ | with_reducible refine Up.drew ?_ | with_reducible refine Up.drewN ?_ _ | with_reducible refine Up.setCell ?_ (by (try simp) <;> omega) _ | with_reducible assumption | with_reducible refine Up.trans ?_ (by assumption)))
                 · rfl
                 · exact tmps_at rfl
               simp only [Act.put, List.setIfInBounds_toArray, List.set_cons_succ, List.set_cons_zero]))
          refine mix_nil ?_
          intro w3 hb_w3
          simp only [fin]
          have hu_w3 : Up w2 w3 := by (repeat (first | with_reducible exact Up.refl _ | with_reducible refine Up.alloc ?_ _ | with_reducible refine Up.drew ?_ | with_reducible refine Up.drewN ?_ _ | with_reducible refine Up.setCell ?_ (by (try simp) <;> omega) _ | with_reducible assumption | with_reducible refine Up.trans ?_ (by assumption)))
          have hz_w3 := Up.size hb_w3
          try simp at hz_w3
          obtain ⟨bc_w3_0, bf_w3_0⟩ := hu_w3.at_ (q) (by omega)
          have zb_w3_0 : q < w3.heap.size := by omega
          go_wp2_with fail
          go_roundw
          case rel => exact ⟨j + 1, by omega, by rw [HV.out], by rw [HV.out], by go_num, HUJ.out.trans (hb_w2.trans hb_w3)⟩
          case measure => simp [intOf]; omega
        · by_cases hd : dv < b2
          · have HV := Lib.hid (show bfn (m : Int) (wn : Int) s F (j + 1) = (f, dv) by rw [HSJ.out]; unfold stepN; rw [if_pos (.inr (by rw [HDD.out]; exact hd)), HDD.out])
            go_wp2_with fail
            refine wp_region_mix (NS := []) [] rfl (by kernel_rfl) (by kernel_rfl) (by simp) (by simp) ?_
            repeat (first
              | (refine mix_skip rfl rfl ?_; simp only [Act.put, List.setIfInBounds_toArray, List.set_cons_succ, List.set_cons_zero])
              | (refine mix_q rfl rfl rfl (by kernel_rfl) rfl rfl rfl ?_
                 apply Exists.intro
                 refine ⟨fun Wm => ?_, ?_⟩
                 · simp only [fin]
                   skip
                   intro K hK
                   go_wp2_with ((first | (go_at_call 34; (with_reducible refine (HW.out _ (HRR.out.up (up_upOf _ _))).mono ?_); rintro e w' ⟨rfl, hux⟩) | (go_at_call 121; (with_reducible refine (mod_is _ _ _ hm1 hm2).mono ?_); rintro e w' ⟨rfl, rfl⟩)))
                   refine hK _ _ ?_ ?_ ?_
                   · (repeat (first | with_reducible exact Up.refl _ | with_reducible refine Up.alloc ?_ _ | with_reducible refine Up.drew ?_ | with_reducible refine Up.drewN ?_ _ | with_reducible refine Up.setCell ?_ (by (try simp) <;> omega) _ | with_reducible assumption | with_reducible refine Up.trans ?_ (by assumption)))
                   · rfl
                   · exact tmps_at rfl
                 simp only [Act.put, List.setIfInBounds_toArray, List.set_cons_succ, List.set_cons_zero]))
            refine mix_nil ?_
            intro w2 hb_w2
            simp only [fin]
            have hu_w2 : Up wr w2 := by (repeat (first | with_reducible exact Up.refl _ | with_reducible refine Up.alloc ?_ _ | with_reducible refine Up.drew ?_ | with_reducible refine Up.drewN ?_ _ | with_reducible refine Up.setCell ?_ (by (try simp) <;> omega) _ | with_reducible assumption | with_reducible refine Up.trans ?_ (by assumption)))
            have hz_w2 := Up.size hb_w2
            try simp at hz_w2
            obtain ⟨bc_w2_0, bf_w2_0⟩ := hu_w2.at_ (q) (by omega)
            have zb_w2_0 : q < w2.heap.size := by omega
            go_wp2_with fail
            refine wp_region_mix (NS := []) [] rfl (by kernel_rfl) (by kernel_rfl) (by simp) (by simp) ?_
            repeat (first
              | (refine mix_skip rfl rfl ?_; simp only [Act.put, List.setIfInBounds_toArray, List.set_cons_succ, List.set_cons_zero])
              | (refine mix_q rfl rfl rfl (by kernel_rfl) rfl rfl rfl ?_
                 apply Exists.intro
                 refine ⟨fun Wm => ?_, ?_⟩
                 · simp only [fin]
                   skip
                   intro K hK
                   go_wp2_with ((first | (go_at_call 34; (with_reducible refine (HW.out _ (HRR.out.up (hu_w2.trans (up_upOf _ _)))).mono ?_); rintro e w' ⟨rfl, hux⟩) | (go_at_call 121; (with_reducible refine (mod_is _ _ _ hm1 hm2).mono ?_); rintro e w' ⟨rfl, rfl⟩)))
                   refine hK _ _ ?_ ?_ ?_
                   · (repeat (first | with_reducible exact Up.refl _ | with_reducible refine Up.alloc ?_ _ | with_reducible refine Up.drew ?_ | with_reducible refine Up.drewN ?_ _ | with_reducible refine Up.setCell ?_ (by (try simp) <;> omega) _ | with_reducible assumption | with_reducible refine Up.trans ?_ (by assumption)))
                   · rfl
                   · exact tmps_at rfl
                 simp only [Act.put, List.setIfInBounds_toArray, List.set_cons_succ, List.set_cons_zero]))
            refine mix_nil ?_
            intro w3 hb_w3
            simp only [fin]
            have hu_w3 : Up w2 w3 := by (repeat (first | with_reducible exact Up.refl _ | with_reducible refine Up.alloc ?_ _ | with_reducible refine Up.drew ?_ | with_reducible refine Up.drewN ?_ _ | with_reducible refine Up.setCell ?_ (by (try simp) <;> omega) _ | with_reducible assumption | with_reducible refine Up.trans ?_ (by assumption)))
            have hz_w3 := Up.size hb_w3
            try simp at hz_w3
            obtain ⟨bc_w3_0, bf_w3_0⟩ := hu_w3.at_ (q) (by omega)
            have zb_w3_0 : q < w3.heap.size := by omega
            go_wp2_with fail
            go_roundw
            case rel => exact ⟨j + 1, by omega, by rw [HV.out], by rw [HV.out], by go_num, HUJ.out.trans (hb_w2.trans hb_w3)⟩
            case measure => simp [intOf]; omega
          · have HV := Lib.hid (show bfn (m : Int) (wn : Int) s F (j + 1) = (b1, b2) by rw [HSJ.out]; unfold stepN; rw [if_neg (by rw [HDD.out]; intro e; rcases e with e | e; exact hb e; exact hd e)])
            go_wp2_with fail
            refine wp_region_mix (NS := []) [] rfl (by kernel_rfl) (by kernel_rfl) (by simp) (by simp) ?_
            repeat (first
              | (refine mix_skip rfl rfl ?_; simp only [Act.put, List.setIfInBounds_toArray, List.set_cons_succ, List.set_cons_zero])
              | (refine mix_q rfl rfl rfl (by kernel_rfl) rfl rfl rfl ?_
                 apply Exists.intro
                 refine ⟨fun Wm => ?_, ?_⟩
                 · simp only [fin]
                   skip
                   intro K hK
                   go_wp2_with ((first | (go_at_call 34; (with_reducible refine (HW.out _ (HRR.out.up (up_upOf _ _))).mono ?_); rintro e w' ⟨rfl, hux⟩) | (go_at_call 121; (with_reducible refine (mod_is _ _ _ hm1 hm2).mono ?_); rintro e w' ⟨rfl, rfl⟩)))
                   refine hK _ _ ?_ ?_ ?_
                   · (repeat (first | with_reducible exact Up.refl _ | with_reducible refine Up.alloc ?_ _ | with_reducible refine Up.drew ?_ | with_reducible refine Up.drewN ?_ _ | with_reducible refine Up.setCell ?_ (by (try simp) <;> omega) _ | with_reducible assumption | with_reducible refine Up.trans ?_ (by assumption)))
                   · rfl
                   · exact tmps_at rfl
                 simp only [Act.put, List.setIfInBounds_toArray, List.set_cons_succ, List.set_cons_zero]))
            refine mix_nil ?_
            intro w2 hb_w2
            simp only [fin]
            have hu_w2 : Up wr w2 := by (repeat (first | with_reducible exact Up.refl _ | with_reducible refine Up.alloc ?_ _ | with_reducible refine Up.drew ?_ | with_reducible refine Up.drewN ?_ _ | with_reducible refine Up.setCell ?_ (by (try simp) <;> omega) _ | with_reducible assumption | with_reducible refine Up.trans ?_ (by assumption)))
            have hz_w2 := Up.size hb_w2
            try simp at hz_w2
            obtain ⟨bc_w2_0, bf_w2_0⟩ := hu_w2.at_ (q) (by omega)
            have zb_w2_0 : q < w2.heap.size := by omega
            go_wp2_with fail
            refine wp_region_mix (NS := []) [] rfl (by kernel_rfl) (by kernel_rfl) (by simp) (by simp) ?_
            repeat (first
              | (refine mix_skip rfl rfl ?_; simp only [Act.put, List.setIfInBounds_toArray, List.set_cons_succ, List.set_cons_zero])
              | (refine mix_q rfl rfl rfl (by kernel_rfl) rfl rfl rfl ?_
                 apply Exists.intro
                 refine ⟨fun Wm => ?_, ?_⟩
                 · simp only [fin]
                   skip
                   intro K hK
                   go_wp2_with ((first | (go_at_call 34; (with_reducible refine (HW.out _ (HRR.out.up (hu_w2.trans (up_upOf _ _)))).mono ?_); rintro e w' ⟨rfl, hux⟩) | (go_at_call 121; (with_reducible refine (mod_is _ _ _ hm1 hm2).mono ?_); rintro e w' ⟨rfl, rfl⟩)))
                   refine hK _ _ ?_ ?_ ?_
                   · (repeat (first | with_reducible exact Up.refl _ | with_reducible refine Up.alloc ?_ _ | with_reducible refine Up.drew ?_ | with_reducible refine Up.drewN ?_ _ | with_reducible refine Up.setCell ?_ (by (try simp) <;> omega) _ | with_reducible assumption | with_reducible refine Up.trans ?_ (by assumption)))
                   · rfl
                   · exact tmps_at rfl
                 simp only [Act.put, List.setIfInBounds_toArray, List.set_cons_succ, List.set_cons_zero]))
            refine mix_nil ?_
            intro w3 hb_w3
            simp only [fin]
            have hu_w3 : Up w2 w3 := by (repeat (first | with_reducible exact Up.refl _ | with_reducible refine Up.alloc ?_ _ | with_reducible refine Up.drew ?_ | with_reducible refine Up.drewN ?_ _ | with_reducible refine Up.setCell ?_ (by (try simp) <;> omega) _ | with_reducible assumption | with_reducible refine Up.trans ?_ (by assumption)))
            have hz_w3 := Up.size hb_w3
            try simp at hz_w3
            obtain ⟨bc_w3_0, bf_w3_0⟩ := hu_w3.at_ (q) (by omega)
            have zb_w3_0 : q < w3.heap.size := by omega
            go_wp2_with fail
            go_roundw
            case rel => exact ⟨j + 1, by omega, by rw [HV.out], by rw [HV.out], by go_num, HUJ.out.trans (hb_w2.trans hb_w3)⟩
            case measure => simp [intOf]; omega
    · obtain rfl : j = nl := by omega
      have HA := Lib.hid HNX.out
      rw [HBJ.out] at HA
      go_wp2_with fail
      go_ret
      exact ⟨by rw [← HA.out]; rfl, HU1.out.trans HUJ.out⟩
end Go.Proofs.Ytjokcfenncogkaa
