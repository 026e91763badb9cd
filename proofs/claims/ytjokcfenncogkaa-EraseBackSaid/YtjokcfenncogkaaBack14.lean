/-
  What was inserted ahead of nulls, deleted, gives the row back. No condition.
-/
import Derived.Test.YtjokcfenncogkaaRRow14
namespace Go.Proofs.Ytjokcfenncogkaa
open Go.RowKit
set_option linter.unusedVariables false
set_option linter.unusedSimpArgs false

/-- some of the first j are null (a); one that isn't lies behind one that is (b) -/
def SawN (f : Nat → Int) (j : Nat) (a b : Bool) : Prop := (a = false → ∀ i, i < j → f i ≠ 0) ∧ (a = true → b = false → ∃ e, e < j ∧ (∀ i, i < e → f i ≠ 0) ∧ ∀ i, e ≤ i → i < j → f i = 0)
theorem SawN.zero (f : Nat → Int) : SawN f 0 false false := ⟨fun _ i h => by omega, fun h => by cases h⟩
theorem SawN.null {f : Nat → Int} {j : Nat} {a b : Bool} (h : SawN f j a b) (hx : f j = 0) : SawN f (j + 1) true b := by
  refine ⟨fun h => (by cases h), fun _ hb => ?_⟩
  cases a
  · refine ⟨j, by omega, h.1 rfl, fun i h1 h2 => ?_⟩
    obtain rfl : i = j := by omega
    exact hx
  · obtain ⟨e, h1, h2, h3⟩ := h.2 rfl hb
    refine ⟨e, by omega, h2, fun i h4 h5 => ?_⟩
    rcases Nat.lt_or_ge i j with h6 | h6
    · exact h3 i h4 h6
    · obtain rfl : i = j := by omega
      exact hx
theorem SawN.none {f : Nat → Int} {j : Nat} {b : Bool} (h : SawN f j false b) (hx : f j ≠ 0) : SawN f (j + 1) false b := by
  refine ⟨fun _ i hi => ?_, fun h => by cases h⟩
  rcases Nat.lt_or_ge i j with h6 | h6
  · exact h.1 rfl i h6
  · obtain rfl : i = j := by omega
    exact hx
theorem SawN.bad {f : Nat → Int} {j : Nat} : SawN f j true true := ⟨fun h => (by cases h), fun _ h => (by cases h)⟩
theorem idx_lt {l : List Int} {x : Int} (h : x ∈ l) : l.idxOf x < l.length := List.idxOf_lt_length_of_mem h
/-- a row is the beginning of what insertion moves -/
theorem row_round {X : Spc} (ok : X.Ok) (n : Int) : (X.row n).length ≤ (X.roundL n).length ∧ ∀ j, j < (X.row n).length → (X.roundL n).getD j 0 = (X.row n).getD j 0 := by
  have hp := Spc.pos ok
  have hl := ok.len
  have hk0 := Int.emod_nonneg n (show X.r * X.c ≠ 0 by omega)
  have hk1 := Int.emod_lt_of_pos n hp
  obtain ⟨h1, h2, h3⟩ := rowN_is X (n % (X.r * X.c))
  obtain ⟨b1, b2, b3⟩ := rest_bd ok hk0 hk1
  rcases Nat.eq_zero_or_pos (X.row n).length with h0 | h0
  · exact ⟨by omega, fun j hj => by omega⟩
  have hrow : X.row n = rowTo (n % (X.r * X.c)) (X.rowN (n % (X.r * X.c))) := rfl
  rw [hrow] at h0 ⊢
  rw [rowTo_len] at h0 ⊢
  by_cases hA : 0 < attrsN X.L
  · have hna : X.isA n = false := by
      have := h2 0 h0
      rw [← Spc.isA_emod]; simpa using this
    have hst : 0 ≤ X.start n := by
      rcases Int.lt_or_le (X.start n) 0 with h | h
      · exact absurd hA (start_neg ok n h)
      · exact h
    have hm := place_mem ok hna hst
    have hsA := start_attr ok hst
    unfold Spc.roundL Spc.restL
    rw [if_pos hA, if_neg (by omega)]
    obtain ⟨c1, c2, c3⟩ := cnt_is ok hsA
    have hpl : X.places (X.start n) = stepsL X (X.start n) (X.cnt (X.start n)) := by unfold Spc.places; rw [if_pos hsA]
    have hi := idx_lt hm
    have hg := getD_idxOf hi
    rw [hpl] at hi hg ⊢
    rw [stepsL_len] at hi
    obtain ⟨i0, hi0⟩ : ∃ i0, (stepsL X (X.start n) (X.cnt (X.start n))).idxOf (n % (X.r * X.c)) = i0 := ⟨_, rfl⟩
    rw [hi0] at hi hg ⊢
    have hg2 : (X.start n + 1 + (i0 : Int)) % (X.r * X.c) = n % (X.r * X.c) := by
      rw [← hg]
      unfold stepsL
      rw [getD_map_range hi]
    have hle : X.rowN (n % (X.r * X.c)) ≤ X.cnt (X.start n) - i0 := by
      rcases Nat.lt_or_ge (X.cnt (X.start n) - i0) (X.rowN (n % (X.r * X.c))) with h | h
      · exfalso
        have h4 := h2 _ h
        rw [← hg2, ← Spc.isA_emod, Int.emod_add_emod, Spc.isA_emod, show X.start n + 1 + (i0 : Int) + ((X.cnt (X.start n) - i0 : Nat) : Int) = X.start n + 1 + X.cnt (X.start n) by omega, c2] at h4
        cases h4
      · exact h
    refine ⟨by rw [List.length_drop, stepsL_len]; exact hle, fun j hj => ?_⟩
    rw [List.getD, List.getElem?_drop, ← List.getD]
    unfold stepsL rowTo
    rw [getD_map_range (show i0 + j < _ by omega), getD_map_range hj]
    rw [show X.start n + 1 + ((i0 + j : Nat) : Int) = X.start n + 1 + (i0 : Int) + (j : Int) by omega, ← Int.emod_add_emod, hg2, Int.emod_eq_of_lt (by omega) (by omega)]
  · unfold Spc.roundL
    rw [if_neg hA, placesN_len]
    refine ⟨by omega, fun j hj => ?_⟩
    unfold placesN rowTo
    rw [getD_map_range (show j < X.L.length by omega), getD_map_range hj, Int.emod_eq_of_lt (by omega) (by omega)]
theorem row_head {X : Spc} (n : Int) (h : 0 < (X.row n).length) : (X.row n).getD 0 0 = n % (X.r * X.c) := by
  unfold Spc.row at h ⊢
  rw [rowTo_len] at h
  unfold rowTo
  rw [getD_map_range h]; simp
theorem wrap_emod14 (X : Spc) (n : Int) : X.wrap (n % (X.r * X.c)) = X.wrap n := by unfold Spc.wrap; rw [Int.emod_emod]
theorem row_open {X : Spc} {n : Int} (h : X.open_ n = true) : X.isA n = false := open_isA h
theorem ins_ok {X : Spc} (ok : X.Ok) (n : Int) {x : Int} (hx : isB x) (e : Nat) : (insL X (X.roundL n) x e).Ok := chs_ok ok (fun k => updG_b (insG_b (ch0_b ok) _ _ _) _ hx k)
theorem insA_ok {X : Spc} (ok : X.Ok) (n : Int) {x : Int} (hx : isB x) (e : Nat) : (X.insA n x e).Ok := (ins_ok ok n hx e).modify n
theorem insA_alk {X : Spc} (ok : X.Ok) (n : Int) {x : Int} (hx : isB x) (e : Nat) : Alk X (X.insA n x e) := (chs_alk X _).trans (modify_alk (ins_ok ok n hx e) n)
theorem insA_ch {X : Spc} (ok : X.Ok) {n : Int} {x : Int} (hx : isB x) (e : Nat) {m : Int} (hm : X.isA m = false) : ((X.insA n x e).at_ m).ch = updG (insG X.ch0 (X.roundL n) 0 e) (X.wrap ((X.roundL n).getD 0 0)) x (X.wrap m) := by
  unfold Spc.insA
  rw [modify_na (ins_ok ok n hx e) (by unfold insL; rw [chs_isA]; exact hm)]
  unfold insL
  rw [chs_ch ok _ m hm]
/-- what was inserted stands there -/
theorem ins_there {X : Spc} (ok : X.Ok) {n : Int} {x : Int} (hx : isB x) (e : Nat) (hn : X.isA n = false) (h0 : 0 < (X.row n).length) : ((X.insA n x e).at_ n).ch = x := by
  rw [insA_ch ok hx e hn, (row_round ok n).2 0 h0, row_head n h0, wrap_emod14]
  unfold updG; rw [if_pos rfl]
theorem mark_fP : ∀ k : Fin 256, fP (six05 (bits .or .u8 (k.val : Int) 1)) = fP (k.val : Int) := by decide +kernel
theorem modify_open {X : Spc} (ok : X.Ok) (n m : Int) : (X.modify n).open_ m = X.open_ m := by
  have hA := modify_alk ok n
  unfold Spc.open_
  rw [hA.at_, hA.start, modify_at ok]
  split
  · rename_i h
    have hst : 0 ≤ X.start m := by
      rcases start_range ok m with h2 | h2
      · obtain ⟨h3, h4⟩ := h
        rw [h2] at h4
        have hp := Spc.pos ok
        have h5 : X.start n < X.r * X.c := by rcases start_range ok n with h6 | h6 <;> omega
        have h7 : X.start n = X.r * X.c - 1 := by
          rw [← h4, ← Int.add_emod_right, Int.emod_eq_of_lt (by have := ok.big; have := ok.len; omega) (by omega)]; omega
        exfalso
        have h8 := start_attr ok h3
        have h9 : ¬ 0 < attrsN X.L := start_neg ok m (by omega)
        rw [no_attr ok h9] at h8; cases h8
      · exact h2.1
    have h1 : X.start m = X.start n := by
      have h5 : X.start m < X.r * X.c := by rcases start_range ok m with h6 | h6 <;> omega
      rw [← h.2, Int.emod_eq_of_lt hst h5]
    rw [h1]
    have h2 := start_attr ok h.1
    have h3 : (X.at_ (X.start n)).mark.at_ = true := h2
    have h4 : fP (X.at_ (X.start n)).mark.fit.fa = fP (X.at_ (X.start n)).fa := by
      unfold Cl.fit
      rw [if_pos h3]
      have hb := (ok.at_wf (X.start n)).fa
      have := mark_fP ⟨(X.at_ (X.start n)).fa.toNat, by have := hb.2; omega⟩
      have h0 : (((X.at_ (X.start n)).fa.toNat : Nat) : Int) = (X.at_ (X.start n)).fa := by have := hb.1; omega
      simp only [h0] at this
      exact this
    rw [h4]
  · rfl
theorem chs_open {X : Spc} (g : Nat → Int) (n : Int) : (chs X g).open_ n = X.open_ n := by
  unfold Spc.open_
  rw [chs_isA, chs_start, chs_fa]
theorem insA_open {X : Spc} (ok : X.Ok) (n : Int) {x : Int} (hx : isB x) (e : Nat) : (X.insA n x e).open_ n = X.open_ n := by
  unfold Spc.insA
  rw [modify_open (ins_ok ok n hx e)]
  unfold insL
  rw [chs_open]
theorem delA_ch {X : Spc} (ok : X.Ok) {n m : Int} (hm : X.isA m = false) : ((X.delA n).at_ m).ch = delG X.ch0 (X.row n) (X.row n).length (X.wrap m) := by
  have hY : (chs X (delG X.ch0 (X.row n) (X.row n).length)).Ok := chs_ok ok (delG_b (ch0_b ok) _ _)
  unfold Spc.delA
  rw [modify_na hY (by rw [chs_isA]; exact hm), chs_ch ok _ m hm]
theorem delA_ok {X : Spc} (ok : X.Ok) (n : Int) : (X.delA n).Ok := (chs_ok ok (delG_b (ch0_b ok) _ _)).modify n
/-- deleted, it is as it was -/
theorem back_is {X : Spc} (ok : X.Ok) {n x : Int} (hx : isB x) {e' e : Nat} (he' : X.nul (X.roundL n) = some e') (he : e < (X.row n).length) (h1 : ∀ i, i < e → (X.at_ ((X.row n).getD i 0)).ch ≠ 0) (h2 : ∀ i, e ≤ i → i < (X.row n).length → (X.at_ ((X.row n).getD i 0)).ch = 0)
    {j : Nat} (hj : j < (X.row n).length) : (((X.insA n x e').delA n).at_ ((X.row n).getD j 0)).ch = (X.at_ ((X.row n).getD j 0)).ch := by
  obtain ⟨r1, r2⟩ := row_round ok n
  have hgr := good_row ok n
  have hgR := good_round ok n
  have hnu := he'
  unfold Spc.nul at hnu
  rw [List.findIdx?_eq_some_iff_getElem] at hnu
  obtain ⟨n1, n2, n3⟩ := hnu
  have hR : ∀ i, (hi : i < (X.roundL n).length) → (X.roundL n)[i] = (X.roundL n).getD i 0 := fun i hi => by rw [List.getD, List.getElem?_eq_getElem hi]; rfl
  obtain rfl : e' = e := by
    rcases Nat.lt_trichotomy e' e with h | h | h
    · exfalso
      have := h1 e' h
      rw [hR, r2 e' (by omega)] at n2
      simp at n2; exact this n2
    · exact h
    · exfalso
      have h3 := n3 e h
      rw [hR, r2 e he, h2 e (Nat.le_refl _) he] at h3
      simp at h3
  have oki := insA_ok ok n hx e'
  have halk := insA_alk ok n hx e'
  have hkj := hgr.na _ (at_mem hj)
  have hbj := hgr.bd _ (at_mem hj)
  have hwj := wrap_at hbj.1 hbj.2
  have hwi : (X.insA n x e').wrap ((X.row n).getD j 0) = X.wrap ((X.row n).getD j 0) := by
    unfold Spc.wrap; rw [halk.r, halk.c]
  rw [delA_ch oki (by rw [halk.at_]; exact hkj), halk.row, hwi]
  unfold delG
  rw [hwj, idxOf_at hgr.nd hj, if_pos hj]
  split
  · rename_i hj1
    have hk1 := hgr.na _ (at_mem hj1)
    have hb1 := hgr.bd _ (at_mem hj1)
    have hw1 := wrap_at hb1.1 hb1.2
    unfold Spc.ch0
    rw [show (((X.row n).getD (j + 1) 0).toNat : Int) = (X.row n).getD (j + 1) 0 by omega, insA_ch ok hx e' hk1]
    have hne : X.wrap ((X.row n).getD (j + 1) 0) ≠ X.wrap ((X.roundL n).getD 0 0) := by
      rw [r2 0 (by omega)]
      have hb0 := hgr.bd _ (at_mem (show 0 < (X.row n).length by omega))
      have hw0 := wrap_at hb0.1 hb0.2
      have := hgr.nd 0 (j + 1) (by omega) hj1
      omega
    unfold updG insG
    rw [if_neg hne, hw1, ← r2 (j + 1) hj1, idxOf_at hgR.nd (by omega)]
    by_cases hje : j + 1 ≤ e'
    · rw [if_pos ⟨by omega, hje⟩, show j + 1 - 1 = j by omega, r2 j hj]
      unfold Spc.ch0
      rw [show (((X.row n).getD j 0).toNat : Int) = (X.row n).getD j 0 by omega]
    · rw [if_neg (by omega), h2 j (by omega) hj]
      unfold Spc.ch0
      rw [r2 (j + 1) hj1, hw1, h2 (j + 1) (by omega) hj1]
  · exact (h2 j (by omega) hj).symm
end Go.Proofs.Ytjokcfenncogkaa
