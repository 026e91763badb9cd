/-
  space's All as an iterator. No condition.
-/
import Derived.Test.YtjokcfenncogkaaSp4
import Derived.Test.YtjokcfenncogkaaRs3
import Derived.Test.YtjokcfenncogkaaRf
import Derived.Stop.RegionWithIn
import Derived.Shelf.Abstract
namespace Go.Proofs.Ytjokcfenncogkaa
open Go.RowKit Go.Shelf
set_option linter.unusedVariables false
set_option linter.unusedSimpArgs false
attribute [local go_sem] Oper.semAt_some

theorem enters_all : ∀ args w, (callFunc 158 args).run Try.prog w = .ok (.enter 158 args) w := enters_of Try.func158 (by kernel_rfl) rfl
/-- a space of which something holds, and the box with its place -/
def SeeS (p m b : Nat) (Q : Spc → Prop) (W : World) : Prop := ∃ g X, SAt W p g X ∧ X.Ok ∧ X.L.length = m ∧ Q X ∧ W.cell? ⟨b, 0, none⟩ = some (.pointer (some ⟨p, 0, none⟩))
theorem SeeS.up {p m b : Nat} {Q : Spc → Prop} {W W' : World} (h : SeeS p m b Q W) (hu : Up W W') : SeeS p m b Q W' := by
  obtain ⟨g, X, h1, h2, h3, h4, h5⟩ := h
  exact ⟨g, X, h1.up hu, h2, h3, h4, ((hu.at_ b (cell_lt h5)).1 0).trans h5⟩
/-- a place of All: its number and its cell -/
def encPC (x : Nat × Cl) : Array Value := #[.int .i64 (x.1 : Int), x.2.val]
theorem Spc.at_nat {X : Spc} (ok : X.Ok) {j : Nat} (hj : j < X.L.length) : X.L[j]? = some (X.at_ (j : Int)) := by
  have h := ok.len
  have hw : X.wrap (j : Int) = j := by
    show ((j : Int) % (X.r * X.c)).toNat = j
    rw [Int.emod_eq_of_lt (by omega) (by omega)]; simp
  unfold Spc.at_
  rw [hw, List.getD, List.getElem?_eq_getElem hj]; rfl
/-- what a space's places are at a time -/
def AllG (p m : Nat) (pre : List (Nat × Cl)) (x : Nat × Cl) (W : World) : Prop := x.1 = pre.length ∧ x.1 < m ∧ ∀ g X, SAt W p g X → X.Ok → X.L.length = m → X.L[x.1]? = some x.2
theorem SAt.cells_eq {w : World} {p g g' : Nat} {X X' : Spc} (h : SAt w p g X) (h' : SAt w p g' X') : X.L.length = X'.L.length ∧ g = g' ∧ ∀ i : Nat, X.L[i]? = X'.L[i]? := by
  obtain ⟨cap, _, _, h4⟩ := h.h4
  obtain ⟨cap', _, _, h4'⟩ := h'.h4
  rw [h4] at h4'
  injection h4' with h4'
  injection h4' with e1 e2 e3
  injection e1 with e1
  injection e1 with e1
  subst e1
  refine ⟨e2, rfl, fun i => ?_⟩
  rcases Nat.lt_or_ge i X.L.length with hlt | hge
  · obtain ⟨c, hc⟩ : ∃ c, X.L[i]? = some c := ⟨_, List.getElem?_eq_getElem hlt⟩
    obtain ⟨d, hd⟩ : ∃ d, X'.L[i]? = some d := ⟨_, List.getElem?_eq_getElem (by omega)⟩
    obtain ⟨c0, c1, c2, c3, c4, c5⟩ := h.cells.2.2 i c hc
    obtain ⟨d0, d1, d2, d3, d4, d5⟩ := h'.cells.2.2 i d hd
    rw [c0] at d0; rw [c1] at d1; rw [c2] at d2; rw [c3] at d3; rw [c4] at d4; rw [c5] at d5
    injection d0 with d0; injection d0 with _ d0
    injection d1 with d1; injection d1 with d1
    injection d2 with d2; injection d2 with _ d2
    injection d3 with d3; injection d3 with _ d3
    injection d4 with d4; injection d4 with _ d4
    injection d5 with d5; injection d5 with _ d5
    rw [hc, hd, Cl.ext_ d0 d1 d2 d3 d4 d5]
  · rw [List.getElem?_eq_none hge, List.getElem?_eq_none (by omega)]

set_option maxRecDepth 100000 in
set_option maxHeartbeats 3200000 in
theorem all_it {p m b : Nat} {Q : Spc → Prop} : ItN Try.prog 158 #[.pointer (some ⟨b, 0, none⟩)] encPC (fun _ => False) (fun _ => True) (SeeS p m b Q) (AllG p m) (fun xs => xs.length = m) (fun pre => pre.length ≤ m) := by
  intro k l J Jx N0 W hJ hJx hV hT hNz hV0 hY h0
  refine callsIn_of_wp Try.func158 rfl trivial ?_ rfl
  simp only [Try.ntmps158, List.size_toArray, List.length_cons, List.length_nil, Nat.reduceAdd, Nat.reduceSub, Array.replicate_succ, Array.replicate_zero, List.push_toArray, List.append_toArray, List.nil_append, List.cons_append]
  obtain ⟨g, X, hs, ok, hm, hq, hb⟩ := hV _ _ _ h0
  have zb := cell_lt hb
  have hbg := ok.big
  have hsm := ok.small
  have HV := Lib.hid ok.valid
  have HMC := Lib.hid (show X.r * X.c = (m : Int) by rw [← hm]; exact ok.len.symm)
  have HSZ := Lib.hid (ssize_is hs)
  have HY := Lib.hid hY
  have HJ := Lib.hid hJ
  have HJx := Lib.hid hJx
  have HVV := Lib.hid hV
  have H0 := Lib.hid h0
  rw [hm] at hbg hsm
  clear hY hJ hJx hV h0 hT hV0 hNz hs ok hm hq
  gi_wp2_with (first
    | (refine ⟨trivial, (fun h => by simp [Fence.wide] at h), ?_⟩; gi_at_call 25; (with_reducible refine (callsIn_wide.2 HSZ.out).mono ?_); rintro e w2 ⟨rfl, hu2⟩)
    | (refine ⟨trivial, (fun h => by simp [Fence.wide] at h), ?_⟩; gi_at_call 26; (with_reducible refine (callsIn_wide.2 (cells_good _ _ _ HV.out)).mono ?_); rw [HMC.out]; rintro e w3 ⟨rfl, hu3⟩))
  have HJ3 := Lib.hid (HJ.out.up (HJ.out.up H0.out hu2) hu3)
  clear hu2 hu3 hb
  gi_loopw [3, 7] (fun _ i wr => ∃ pre : List (Nat × Cl), pre.length ≤ m ∧ i = .int .i64 (pre.length : Int) ∧ J N0 pre wr) (fun _ i _ => m - (intOf i).toNat)
  case atStart => exact ⟨[], by simp, rfl, HJ3.out⟩
  case round =>
    obtain ⟨pre, hj, rfl, hJs⟩ := hrel
    obtain ⟨g', Y, hs, ok, hm, hq, hb⟩ := HVV.out _ _ _ hJs
    obtain ⟨j, hjl⟩ : ∃ j, pre.length = j := ⟨_, rfl⟩
    have HJL := Lib.hid hjl
    rw [hjl] at hj ⊢
    have zb := cell_lt hb
    have HJS := Lib.hid hJs
    by_cases hlt : j < m
    · have hc := Spc.at_nat ok (j := j) (by omega)
      obtain ⟨c, hcc⟩ : ∃ c, Y.at_ (j : Int) = c := ⟨_, rfl⟩
      have HAT := Lib.hid (sat_is (j : Int) hs ok)
      rw [hcc] at hc HAT
      have hG : AllG p m pre (j, c) wr := ⟨hjl.symm, hlt, fun g2 X2 h2 _ _ => by rw [← (hs.cells_eq h2).2.2 j]; exact hc⟩
      have HG := Lib.hid hG
      have hjm : (j : Int) < (m : Int) := by omega
      have HLN := Lib.hid (show (pre ++ [(j, c)]).length = j + 1 by simp [HJL.out])
      clear hs ok hm hq hc hcc hG hJs hjl
      unfold Cl.val at HAT
      gi_wp2_with (first
        | (refine ⟨trivial, (fun h => by simp [Fence.wide] at h), ?_⟩; gi_at_call 27; (with_reducible refine (callsIn_wide.2 HAT.out).mono ?_); rintro e w9 ⟨rfl, hu9⟩; obtain ⟨fn, tmps, assign, body, hy, hR⟩ := HY.out N0 pre (j, c) w9 (HJ.out.up HJS.out hu9) ⟨HG.out.1, HG.out.2.1, fun g2 X2 h2 ok2 hm2 => by
            obtain ⟨g3, Z, h3, ok3, hm3, _, _⟩ := HVV.out _ _ _ HJS.out
            rw [← ((h3.up hu9).cells_eq h2).2.2]
            exact HG.out.2.2 g3 Z h3 ok3 hm3⟩; have HRR := Lib.hid hR; clear hR; simp only [encPC, Cl.val] at hy))
      refine ⟨fun h => by simp [Fence.wide] at h, ?_⟩
      refine HRR.out.mono ?_
      rintro e W' (⟨rfl, hJ', -⟩ | ⟨rfl, hJ', -⟩)
      · have HJ' := Lib.hid hJ'
        clear hJ'
        gi_wp2
        go_roundw
        case rel => exact ⟨pre ++ [(j, c)], by rw [HLN.out]; omega, by rw [HLN.out]; go_num, HJ'.out⟩
        case measure => simp [intOf]; omega
      · have HX := Lib.hid hJ'
        clear hJ'
        gi_wp2
        refine bodyPost_ret (results_none rfl _ _ _) rfl ?_
        exact ⟨⟨_, rfl⟩, .inr ⟨_, by rw [HLN.out]; omega, HX.out⟩⟩
    · obtain rfl : j = m := by omega
      clear hs ok hm hq hJs hjl
      gi_wp2
      go_end0
      exact ⟨⟨_, rfl⟩, .inl ⟨_, HJL.out, HJS.out⟩⟩
end Go.Proofs.Ytjokcfenncogkaa
