/-
  The document's Row. No condition.
  What was inserted ahead of nulls, deleted, gives the row back. No condition.
  What End, Delete and Insert leave alone; the law's do, of these three. No condition.
-/
import Derived.Test.YtjokcfenncogkaaAwk
import Derived.BigQuiet
namespace Go.Proofs.Ytjokcfenncogkaa
open Go.RowKit
set_option linter.unusedVariables false
set_option linter.unusedSimpArgs false

set_option maxRecDepth 100000 in
set_option maxHeartbeats 6400000 in
theorem rrow_is {q h : Nat} {X : Spc} {w : World} (n : Int) (hr : RAt w q h X) (ok : X.Ok) :
    Calls Try.prog 96 #[.pointer (some ⟨q, 0, none⟩), .int .i64 n] w fun e w' => ∃ A c, e = .returned (.slice A (X.row n).length c) ∧ OwnI w.heap.size w' A (X.row n).length c (X.row n) ∧ Up w w' := by
  obtain ⟨i0, hi, hz0, hz1, hz2⟩ := info_parts info_i64
  have HR := Lib.hid hr
  obtain ⟨k, hk⟩ : ∃ k, X.wrap n = k := ⟨_, rfl⟩
  have hw := ok.wrap n
  rw [hk] at hw
  have HW := Lib.hid (rwrap_at n hr ok hk)
  obtain ⟨a0, a1, a2, a3, a4, a5⟩ := valid_facts ok.valid
  obtain ⟨hn1, hn2, hn3⟩ := rowN_is X (k : Int)
  have hln := ok.len
  have hsm := ok.small
  obtain ⟨b1, b2, b3⟩ := rest_bd ok (k := (k : Int)) (by omega) (by have := hw.2; omega)
  have hrow : X.row n = rowTo (k : Int) (X.rowN (k : Int)) := by unfold Spc.row; rw [hw.1]
  have hrl := rowTo_len (k : Int) (X.rowN (k : Int))
  rw [hrow, hrl]
  have HAT := Lib.hid (fun (j : Nat) (hj : j < X.L.length) => Spc.at_nat ok hj)
  have hkc := Int.mul_ediv_add_emod (k : Int) X.c
  have hkq := mod_facts (k : Int) X.c a2
  have HTM := Lib.hid (fun (j : Nat) (hj : (k : Int) % X.c + j < X.c) => show ((k + j : Nat) : Int).tmod X.c = (k : Int) % X.c + j by
    rw [Int.tmod_eq_emod_of_nonneg (by omega), show ((k + j : Nat) : Int) = ((k : Int) % X.c + j) + X.c * ((k : Int) / X.c) by omega, Int.add_mul_emod_self_left, Int.emod_eq_of_lt (by omega) hj])
  generalize X.rowN (k : Int) = rn at *
  generalize X.rest (k : Int) = rs at *
  have hkl := hw.2
  obtain ⟨m, hm⟩ : ∃ m, X.L.length = m := ⟨_, rfl⟩
  rw [hm] at HAT hln hsm hkl
  have HM := Lib.hid hm
  have HN2 := Lib.hid hn2
  have HN3 := Lib.hid hn3
  have hkm : k + rs ≤ m := by omega
  obtain ⟨kc, hkce⟩ : ∃ kc, (k : Int) % X.c = kc := ⟨_, rfl⟩
  rw [hkce] at HTM hkq b2
  clear hr ok hk hw hrow hrl hn2 hn3 hkc hm hkce b3 a4 a5 hln
  go_enter Try.func96, Try.ntmps96
  go_wp2_with fail
  refine HW.out.mono ?_
  rintro e w1 ⟨rfl, hu1⟩
  have HU1 := Lib.hid hu1
  have HR1 := Lib.hid (HR.out.up hu1)
  have z1 := hu1.size
  clear hu1
  go_wp2_with fail
  go_loopw [1, 5] (fun i v wr => ∃ (j : Nat) (A : Option Addr) (c : Nat), j ≤ rn ∧ j < rs ∧ i = .int .i64 ((k + j : Nat) : Int) ∧ v = .slice A j c ∧ OwnI w1.heap.size wr A j c (rowTo (k : Int) j) ∧ Up w1 wr) (fun i _ _ => m - (intOf i).toNat)
  case atStart => exact ⟨0, none, 0, by omega, by omega, rfl, rfl, by simpa [rowTo] using OwnI.nil _ _, Up.refl _⟩
  case round =>
    obtain ⟨j, A, c, hj, hjr, rfl, rfl, hown, huj⟩ := hrel
    have HUJ := Lib.hid huj
    have HOW := Lib.hid hown
    have zj := huj.size
    have hlt : k + j < m := by omega
    have hat := HAT.out (k + j) hlt
    have htm := HTM.out j (by omega)
    have HSU := Lib.hid (rowTo_succ (k : Int) j)
    rw [show (k : Int) + (j : Int) = ((k + j : Nat) : Int) by omega] at HSU
    have HF := Lib.hid (fun hh => HN2.out j hh)
    have HG := Lib.hid HN3.out
    rw [show (k : Int) + (j : Int) = ((k + j : Nat) : Int) by omega] at HF
    have HKJ := Lib.hid (show j = rn → (k : Int) + (rn : Int) = ((k + j : Nat) : Int) from fun e => by omega)
    obtain ⟨d, hd⟩ : ∃ d, X.at_ ((k + j : Nat) : Int) = d := ⟨_, rfl⟩
    have hAd : X.isA ((k + j : Nat) : Int) = d.at_ := by unfold Spc.isA; rw [hd]
    have HAD := Lib.hid hAd
    rw [hd] at hat
    have hrw := HR1.out.up huj
    have x1 := (hrw.cells.2.2 (k + j) d hat).h1
    have k3 := hrw.h3
    obtain ⟨cap, q1, q2, k4⟩ := hrw.h4
    have zp := hrw.lt
    have zg := hrw.cells.2.1
    rw [HM.out] at q1 k4
    have hcp : (cap : Int) ≤ 9223372036854775807 := by simp [maxLen] at q2; omega
    obtain ⟨t, ht⟩ : ∃ t, k + j = t := ⟨_, rfl⟩
    rw [ht] at hlt htm HSU HF HKJ x1 HAD ⊢
    have HT := Lib.hid ht
    have htm2 : (t : Int) < (m : Int) := by omega
    obtain ⟨dch, da, dfa, dhi, dco, dse⟩ := d
    simp only at x1 HAD
    obtain ⟨cc, hcc⟩ : ∃ cc, X.c = cc := ⟨_, rfl⟩
    have HCC := Lib.hid hcc
    rw [hcc] at a2 a3 b2 hkq htm k3
    clear hcc
    have hbd := tmod_bd (t : Int) cc a2
    have hcz : (cc == 0) = false := by simp; omega
    clear hat hd hAd hrw hown huj q2 ht
    cases da
    · have hjn : j < rn := by
        rcases Nat.lt_or_ge j rn with h1 | h1
        · exact h1
        · exfalso
          have h2 := HG.out (by omega)
          rw [HKJ.out (by omega), HAD.out] at h2
          cases h2
      obtain ⟨v, hv⟩ : ∃ v, (t : Int).tmod cc = v := ⟨_, rfl⟩
      rw [hv] at htm hbd
      go_wp2_with (at_builtin; refine wpList_push i0 hi hz0 hz1 hz2 Try.underlying50 rfl (.tmp 29) (.tmp 31) rfl _ (t : Int) rfl _ (by simp) w1.heap.size A j c (rowTo (k : Int) j) rfl rfl (HOW.out.up (by (repeat (first | with_reducible exact Up.refl _ | with_reducible refine Up.alloc ?_ _ | with_reducible refine Up.drew ?_ | with_reducible refine Up.drewN ?_ _ | with_reducible refine Up.setCell ?_ (by (try simp) <;> omega) _ | with_reducible assumption | with_reducible refine Up.trans ?_ (by assumption))))) (by omega) (by (try simp) <;> omega) ?_; intro A2 c2 w5 hown2 hg2 hbl2 _; have HO2 := Lib.hid hown2; have HB2 := Lib.hid hbl2; have k35 := (HR1.out.up (Up.past HUJ.out hbl2)).h3; have zp5 := (HR1.out.up (Up.past HUJ.out hbl2)).lt; rw [HCC.out] at k35; have HU5 := Lib.hid (Up.past HUJ.out hbl2); clear hown2 hg2 hbl2)
      go_quiet (fail)
      go_wp2
      · have hx : kc + (j : Int) = cc - 1 := by first | omega | (have := ‹(kc + (j : Int) == cc - 1) = true›; simpa using this)
        obtain rfl : rn = j + 1 := by omega
        go_ret
        exact ⟨A2, c2, rfl, by rw [HSU.out]; exact (HO2.out.up ((Up.refl _).drewN _)).low (by omega), (HU1.out.trans HU5.out).drewN _⟩
      · have hx : ¬ kc + (j : Int) = cc - 1 := by first | omega | (have := ‹(kc + (j : Int) == cc - 1) = false›; simpa using this) | (intro e; simp_all)
        go_roundw
        case rel => exact ⟨j + 1, A2, c2, by omega, by omega, by have := HT.out; congr 1; omega, rfl, by rw [HSU.out]; exact HO2.out.up ((Up.refl _).drewN _), HU5.out.drewN _⟩
        case measure => simp [intOf]; omega
    · obtain rfl : j = rn := by
        rcases Nat.lt_or_ge j rn with h1 | h1
        · have := HF.out h1
          rw [HAD.out] at this; cases this
        · omega
      go_wp2
      go_ret
      exact ⟨A, c, rfl, HOW.out.low (by omega), HU1.out.trans HUJ.out⟩
end Go.Proofs.Ytjokcfenncogkaa
namespace Go.Proofs.Ytjokcfenncogkaa
open Go.RowKit
set_option linter.unusedVariables false
set_option linter.unusedSimpArgs false

/-- some of the first j are null (a); one that isn't lies behind one that is (b) -/
def SawN (f : Nat → Int) (j : Nat) (a b : Bool) : Prop := (a = false → ∀ i, i < j → f i ≠ 0) ∧ (a = true → b = false → ∃ e, e < j ∧ (∀ i, i < e → f i ≠ 0) ∧ ∀ i, e ≤ i → i < j → f i = 0)
theorem SawN.zero (f : Nat → Int) : SawN f 0 false false := ⟨fun _ i h => by omega, fun h => by cases h⟩
theorem SawN.null {f : Nat → Int} {j : Nat} {a b : Bool} (h : SawN f j a b) (hx : f j = 0) : SawN f (j + 1) true b := by
  refine ⟨fun h => (by cases h), fun _ hb => ?_⟩
  cases a
  · refine ⟨j, by omega, h.1 rfl, fun i h1 h2 => ?_⟩
    obtain rfl : i = j := by omega
    exact hx
  · obtain ⟨e, h1, h2, h3⟩ := h.2 rfl hb
    refine ⟨e, by omega, h2, fun i h4 h5 => ?_⟩
    rcases Nat.lt_or_ge i j with h6 | h6
    · exact h3 i h4 h6
    · obtain rfl : i = j := by omega
      exact hx
theorem SawN.none {f : Nat → Int} {j : Nat} {b : Bool} (h : SawN f j false b) (hx : f j ≠ 0) : SawN f (j + 1) false b := by
  refine ⟨fun _ i hi => ?_, fun h => by cases h⟩
  rcases Nat.lt_or_ge i j with h6 | h6
  · exact h.1 rfl i h6
  · obtain rfl : i = j := by omega
    exact hx
theorem SawN.bad {f : Nat → Int} {j : Nat} : SawN f j true true := ⟨fun h => (by cases h), fun _ h => (by cases h)⟩
theorem idx_lt {l : List Int} {x : Int} (h : x ∈ l) : l.idxOf x < l.length := List.idxOf_lt_length_of_mem h
/-- a row is the beginning of what insertion moves -/
theorem row_round {X : Spc} (ok : X.Ok) (n : Int) : (X.row n).length ≤ (X.roundL n).length ∧ ∀ j, j < (X.row n).length → (X.roundL n).getD j 0 = (X.row n).getD j 0 := by
  have hp := Spc.pos ok
  have hl := ok.len
  have hk0 := Int.emod_nonneg n (show X.r * X.c ≠ 0 by omega)
  have hk1 := Int.emod_lt_of_pos n hp
  obtain ⟨h1, h2, h3⟩ := rowN_is X (n % (X.r * X.c))
  obtain ⟨b1, b2, b3⟩ := rest_bd ok hk0 hk1
  rcases Nat.eq_zero_or_pos (X.row n).length with h0 | h0
  · exact ⟨by omega, fun j hj => by omega⟩
  have hrow : X.row n = rowTo (n % (X.r * X.c)) (X.rowN (n % (X.r * X.c))) := rfl
  rw [hrow] at h0 ⊢
  rw [rowTo_len] at h0 ⊢
  by_cases hA : 0 < attrsN X.L
  · have hna : X.isA n = false := by
      have := h2 0 h0
      rw [← Spc.isA_emod]; simpa using this
    have hst : 0 ≤ X.start n := by
      rcases Int.lt_or_le (X.start n) 0 with h | h
      · exact absurd hA (start_neg ok n h)
      · exact h
    have hm := place_mem ok hna hst
    have hsA := start_attr ok hst
    unfold Spc.roundL Spc.restL
    rw [if_pos hA, if_neg (by omega)]
    obtain ⟨c1, c2, c3⟩ := cnt_is ok hsA
    have hpl : X.places (X.start n) = stepsL X (X.start n) (X.cnt (X.start n)) := by unfold Spc.places; rw [if_pos hsA]
    have hi := idx_lt hm
    have hg := getD_idxOf hi
    rw [hpl] at hi hg ⊢
    rw [stepsL_len] at hi
    obtain ⟨i0, hi0⟩ : ∃ i0, (stepsL X (X.start n) (X.cnt (X.start n))).idxOf (n % (X.r * X.c)) = i0 := ⟨_, rfl⟩
    rw [hi0] at hi hg ⊢
    have hg2 : (X.start n + 1 + (i0 : Int)) % (X.r * X.c) = n % (X.r * X.c) := by
      rw [← hg]
      unfold stepsL
      rw [getD_map_range hi]
    have hle : X.rowN (n % (X.r * X.c)) ≤ X.cnt (X.start n) - i0 := by
      rcases Nat.lt_or_ge (X.cnt (X.start n) - i0) (X.rowN (n % (X.r * X.c))) with h | h
      · exfalso
        have h4 := h2 _ h
        rw [← hg2, ← Spc.isA_emod, Int.emod_add_emod, Spc.isA_emod, show X.start n + 1 + (i0 : Int) + ((X.cnt (X.start n) - i0 : Nat) : Int) = X.start n + 1 + X.cnt (X.start n) by omega, c2] at h4
        cases h4
      · exact h
    refine ⟨by rw [List.length_drop, stepsL_len]; exact hle, fun j hj => ?_⟩
    rw [List.getD, List.getElem?_drop, ← List.getD]
    unfold stepsL rowTo
    rw [getD_map_range (show i0 + j < _ by omega), getD_map_range hj]
    rw [show X.start n + 1 + ((i0 + j : Nat) : Int) = X.start n + 1 + (i0 : Int) + (j : Int) by omega, ← Int.emod_add_emod, hg2, Int.emod_eq_of_lt (by omega) (by omega)]
  · unfold Spc.roundL
    rw [if_neg hA, placesN_len]
    refine ⟨by omega, fun j hj => ?_⟩
    unfold placesN rowTo
    rw [getD_map_range (show j < X.L.length by omega), getD_map_range hj, Int.emod_eq_of_lt (by omega) (by omega)]
theorem row_head {X : Spc} (n : Int) (h : 0 < (X.row n).length) : (X.row n).getD 0 0 = n % (X.r * X.c) := by
  unfold Spc.row at h ⊢
  rw [rowTo_len] at h
  unfold rowTo
  rw [getD_map_range h]; simp
theorem wrap_emod14 (X : Spc) (n : Int) : X.wrap (n % (X.r * X.c)) = X.wrap n := by unfold Spc.wrap; rw [Int.emod_emod]
theorem row_open {X : Spc} {n : Int} (h : X.open_ n = true) : X.isA n = false := open_isA h
theorem ins_ok {X : Spc} (ok : X.Ok) (n : Int) {x : Int} (hx : isB x) (e : Nat) : (insL X (X.roundL n) x e).Ok := chs_ok ok (fun k => updG_b (insG_b (ch0_b ok) _ _ _) _ hx k)
theorem insA_ok {X : Spc} (ok : X.Ok) (n : Int) {x : Int} (hx : isB x) (e : Nat) : (X.insA n x e).Ok := (ins_ok ok n hx e).modify n
theorem insA_alk {X : Spc} (ok : X.Ok) (n : Int) {x : Int} (hx : isB x) (e : Nat) : Alk X (X.insA n x e) := (chs_alk X _).trans (modify_alk (ins_ok ok n hx e) n)
theorem insA_ch {X : Spc} (ok : X.Ok) {n : Int} {x : Int} (hx : isB x) (e : Nat) {m : Int} (hm : X.isA m = false) : ((X.insA n x e).at_ m).ch = updG (insG X.ch0 (X.roundL n) 0 e) (X.wrap ((X.roundL n).getD 0 0)) x (X.wrap m) := by
  unfold Spc.insA
  rw [modify_na (ins_ok ok n hx e) (by unfold insL; rw [chs_isA]; exact hm)]
  unfold insL
  rw [chs_ch ok _ m hm]
/-- what was inserted stands there -/
theorem ins_there {X : Spc} (ok : X.Ok) {n : Int} {x : Int} (hx : isB x) (e : Nat) (hn : X.isA n = false) (h0 : 0 < (X.row n).length) : ((X.insA n x e).at_ n).ch = x := by
  rw [insA_ch ok hx e hn, (row_round ok n).2 0 h0, row_head n h0, wrap_emod14]
  unfold updG; rw [if_pos rfl]
theorem mark_fP : ∀ k : Fin 256, fP (six05 (bits .or .u8 (k.val : Int) 1)) = fP (k.val : Int) := by decide +kernel
theorem modify_open {X : Spc} (ok : X.Ok) (n m : Int) : (X.modify n).open_ m = X.open_ m := by
  have hA := modify_alk ok n
  unfold Spc.open_
  rw [hA.at_, hA.start, modify_at ok]
  split
  · rename_i h
    have hst : 0 ≤ X.start m := by
      rcases start_range ok m with h2 | h2
      · obtain ⟨h3, h4⟩ := h
        rw [h2] at h4
        have hp := Spc.pos ok
        have h5 : X.start n < X.r * X.c := by rcases start_range ok n with h6 | h6 <;> omega
        have h7 : X.start n = X.r * X.c - 1 := by
          rw [← h4, ← Int.add_emod_right, Int.emod_eq_of_lt (by have := ok.big; have := ok.len; omega) (by omega)]; omega
        exfalso
        have h8 := start_attr ok h3
        have h9 : ¬ 0 < attrsN X.L := start_neg ok m (by omega)
        rw [no_attr ok h9] at h8; cases h8
      · exact h2.1
    have h1 : X.start m = X.start n := by
      have h5 : X.start m < X.r * X.c := by rcases start_range ok m with h6 | h6 <;> omega
      rw [← h.2, Int.emod_eq_of_lt hst h5]
    rw [h1]
    have h2 := start_attr ok h.1
    have h3 : (X.at_ (X.start n)).mark.at_ = true := h2
    have h4 : fP (X.at_ (X.start n)).mark.fit.fa = fP (X.at_ (X.start n)).fa := by
      unfold Cl.fit
      rw [if_pos h3]
      have hb := (ok.at_wf (X.start n)).fa
      have := mark_fP ⟨(X.at_ (X.start n)).fa.toNat, by have := hb.2; omega⟩
      have h0 : (((X.at_ (X.start n)).fa.toNat : Nat) : Int) = (X.at_ (X.start n)).fa := by have := hb.1; omega
      simp only [h0] at this
      exact this
    rw [h4]
  · rfl
theorem chs_open {X : Spc} (g : Nat → Int) (n : Int) : (chs X g).open_ n = X.open_ n := by
  unfold Spc.open_
  rw [chs_isA, chs_start, chs_fa]
theorem insA_open {X : Spc} (ok : X.Ok) (n : Int) {x : Int} (hx : isB x) (e : Nat) : (X.insA n x e).open_ n = X.open_ n := by
  unfold Spc.insA
  rw [modify_open (ins_ok ok n hx e)]
  unfold insL
  rw [chs_open]
theorem delA_ch {X : Spc} (ok : X.Ok) {n m : Int} (hm : X.isA m = false) : ((X.delA n).at_ m).ch = delG X.ch0 (X.row n) (X.row n).length (X.wrap m) := by
  have hY : (chs X (delG X.ch0 (X.row n) (X.row n).length)).Ok := chs_ok ok (delG_b (ch0_b ok) _ _)
  unfold Spc.delA
  rw [modify_na hY (by rw [chs_isA]; exact hm), chs_ch ok _ m hm]
theorem delA_ok {X : Spc} (ok : X.Ok) (n : Int) : (X.delA n).Ok := (chs_ok ok (delG_b (ch0_b ok) _ _)).modify n
/-- deleted, it is as it was -/
theorem back_is {X : Spc} (ok : X.Ok) {n x : Int} (hx : isB x) {e' e : Nat} (he' : X.nul (X.roundL n) = some e') (he : e < (X.row n).length) (h1 : ∀ i, i < e → (X.at_ ((X.row n).getD i 0)).ch ≠ 0) (h2 : ∀ i, e ≤ i → i < (X.row n).length → (X.at_ ((X.row n).getD i 0)).ch = 0)
    {j : Nat} (hj : j < (X.row n).length) : (((X.insA n x e').delA n).at_ ((X.row n).getD j 0)).ch = (X.at_ ((X.row n).getD j 0)).ch := by
  obtain ⟨r1, r2⟩ := row_round ok n
  have hgr := good_row ok n
  have hgR := good_round ok n
  have hnu := he'
  unfold Spc.nul at hnu
  rw [List.findIdx?_eq_some_iff_getElem] at hnu
  obtain ⟨n1, n2, n3⟩ := hnu
  have hR : ∀ i, (hi : i < (X.roundL n).length) → (X.roundL n)[i] = (X.roundL n).getD i 0 := fun i hi => by rw [List.getD, List.getElem?_eq_getElem hi]; rfl
  obtain rfl : e' = e := by
    rcases Nat.lt_trichotomy e' e with h | h | h
    · exfalso
      have := h1 e' h
      rw [hR, r2 e' (by omega)] at n2
      simp at n2; exact this n2
    · exact h
    · exfalso
      have h3 := n3 e h
      rw [hR, r2 e he, h2 e (Nat.le_refl _) he] at h3
      simp at h3
  have oki := insA_ok ok n hx e'
  have halk := insA_alk ok n hx e'
  have hkj := hgr.na _ (at_mem hj)
  have hbj := hgr.bd _ (at_mem hj)
  have hwj := wrap_at hbj.1 hbj.2
  have hwi : (X.insA n x e').wrap ((X.row n).getD j 0) = X.wrap ((X.row n).getD j 0) := by
    unfold Spc.wrap; rw [halk.r, halk.c]
  rw [delA_ch oki (by rw [halk.at_]; exact hkj), halk.row, hwi]
  unfold delG
  rw [hwj, idxOf_at hgr.nd hj, if_pos hj]
  split
  · rename_i hj1
    have hk1 := hgr.na _ (at_mem hj1)
    have hb1 := hgr.bd _ (at_mem hj1)
    have hw1 := wrap_at hb1.1 hb1.2
    unfold Spc.ch0
    rw [show (((X.row n).getD (j + 1) 0).toNat : Int) = (X.row n).getD (j + 1) 0 by omega, insA_ch ok hx e' hk1]
    have hne : X.wrap ((X.row n).getD (j + 1) 0) ≠ X.wrap ((X.roundL n).getD 0 0) := by
      rw [r2 0 (by omega)]
      have hb0 := hgr.bd _ (at_mem (show 0 < (X.row n).length by omega))
      have hw0 := wrap_at hb0.1 hb0.2
      have := hgr.nd 0 (j + 1) (by omega) hj1
      omega
    unfold updG insG
    rw [if_neg hne, hw1, ← r2 (j + 1) hj1, idxOf_at hgR.nd (by omega)]
    by_cases hje : j + 1 ≤ e'
    · rw [if_pos ⟨by omega, hje⟩, show j + 1 - 1 = j by omega, r2 j hj]
      unfold Spc.ch0
      rw [show (((X.row n).getD j 0).toNat : Int) = (X.row n).getD j 0 by omega]
    · rw [if_neg (by omega), h2 j (by omega) hj]
      unfold Spc.ch0
      rw [r2 (j + 1) hj1, hw1, h2 (j + 1) (by omega) hj1]
  · exact (h2 j (by omega) hj).symm
end Go.Proofs.Ytjokcfenncogkaa
namespace Go.Proofs.Ytjokcfenncogkaa
open Go.RowKit
set_option linter.unusedVariables false
set_option linter.unusedSimpArgs false

/-- Z is X, but for the codes of n's field and its modified flag -/
def Only (X Z : Spc) (n : Int) : Prop := Z = X ∨ (X.open_ n = true ∧ ∃ f : Nat → Int, (∀ k, isB (f k)) ∧ (∀ k : Nat, k < X.L.length → X.isA (k : Int) = false → X.start (k : Int) ≠ X.start n → f k = X.ch0 k) ∧ Z = (chs X f).modify n)
theorem off_round {X : Spc} (ok : X.Ok) {n : Int} {k : Nat} (h : X.start (k : Int) ≠ X.start n) : 0 < attrsN X.L ∧ (k : Int) ∉ X.roundL n := by
  have hA : 0 < attrsN X.L := by
    rcases Nat.eq_zero_or_pos (attrsN X.L) with h0 | h0
    · exact absurd ((start_none ok _ (by omega)).trans (start_none ok n (by omega)).symm) h
    · exact h0
  refine ⟨hA, fun hm => h ?_⟩
  have hst : 0 ≤ X.start n := by
    rcases Int.lt_or_le (X.start n) 0 with h1 | h1
    · exact absurd hA (start_neg ok n h1)
    · exact h1
  have hsA := start_attr ok hst
  unfold Spc.roundL Spc.restL at hm
  rw [if_pos hA, if_neg (by omega)] at hm
  have hm := List.mem_of_mem_drop hm
  unfold Spc.places at hm
  rw [if_pos hsA] at hm
  unfold stepsL at hm
  rw [List.mem_map] at hm
  obtain ⟨i, hi, he⟩ := hm
  simp at hi
  rw [← he, start_emod, start_step ok hsA hi]
  have h5 : X.start n < X.r * X.c := by rcases start_range ok n with h6 | h6 <;> omega
  exact Int.emod_eq_of_lt hst h5
theorem row_sub {X : Spc} (ok : X.Ok) {n x : Int} (h : x ∈ X.row n) : x ∈ X.roundL n := by
  obtain ⟨j, hj, rfl⟩ := List.getElem_of_mem h
  obtain ⟨h1, h2⟩ := row_round ok n
  have h3 := at_mem (T := X.roundL n) (i := j) (by omega)
  rw [h2 j hj, List.getD, List.getElem?_eq_getElem hj] at h3
  exact h3
theorem end_only {X : Spc} (ok : X.Ok) {n : Int} (ho : X.open_ n = true) : Only X (X.endA n) n := by
  refine .inr ⟨ho, _, endG_b (ch0_b ok) _, fun k hk hna hs => ?_, rfl⟩
  obtain ⟨hA, hm⟩ := off_round ok hs
  unfold Spc.roundL at hm
  rw [if_pos hA] at hm
  unfold endG
  rw [if_neg hm]
theorem del_only {X : Spc} (ok : X.Ok) {n : Int} (ho : X.open_ n = true) : Only X (X.delA n) n := by
  refine .inr ⟨ho, _, delG_b (ch0_b ok) _ _, fun k hk hna hs => ?_, rfl⟩
  obtain ⟨hA, hm⟩ := off_round ok hs
  unfold delG
  rw [if_neg (fun h => hm (row_sub ok (List.idxOf_lt_length_iff.1 h)))]
theorem ins_only {X : Spc} (ok : X.Ok) {n x : Int} (hx : isB x) {e : Nat} (ho : X.open_ n = true) (he : X.nul (X.roundL n) = some e) : Only X (X.insA n x e) n := by
  refine .inr ⟨ho, _, updG_b (insG_b (ch0_b ok) _ _ _) _ hx, fun k hk hna hs => ?_, rfl⟩
  obtain ⟨hA, hm⟩ := off_round ok hs
  unfold Spc.nul at he
  rw [List.findIdx?_eq_some_iff_getElem] at he
  obtain ⟨n1, -, -⟩ := he
  have h0 := at_mem (T := X.roundL n) (i := 0) (by omega)
  have hb := (good_round ok n).bd _ h0
  have hw := wrap_at hb.1 hb.2
  unfold updG insG
  rw [if_neg (fun e1 => hm (by rw [e1, hw]; exact h0)), if_neg (fun h => hm (List.idxOf_lt_length_iff.1 (by omega)))]
theorem Only.ok {X Z : Spc} {n : Int} (h : Only X Z n) (ok : X.Ok) : Z.Ok := by
  rcases h with rfl | ⟨_, f, hf, _, rfl⟩
  · exact ok
  · exact (chs_ok ok hf).modify n
theorem Only.cur {X Z : Spc} {n : Int} (h : Only X Z n) : Z.cur = X.cur := by
  rcases h with rfl | ⟨_, f, hf, _, rfl⟩
  · rfl
  · exact (modify_rc _ n).2.2
def orM (d : Cl) : Cl := { d with fa := bits .or .u8 d.fa 1 }
theorem mark_or : ∀ k : Fin 256, six05 (k.val : Int) = (k.val : Int) → bits .or .u8 (six05 (bits .or .u8 (k.val : Int) 1)) 1 = bits .or .u8 (k.val : Int) 1 := by decide +kernel
theorem Only.attr {X Z : Spc} {n : Int} (h : Only X Z n) (ok : X.Ok) {k : Nat} (hk : k < X.L.length) (hA : X.isA (k : Int) = true) : orM (Z.at_ (k : Int)) = orM (X.at_ (k : Int)) := by
  rcases h with rfl | ⟨_, f, hf, _, rfl⟩
  · rfl
  · have hc : ∀ m, X.isA m = true → (chs X f).at_ m = X.at_ m := fun m hm => by
      rw [chs_at ok]; unfold putC; unfold Spc.isA at hm; rw [if_pos hm]
    rw [modify_at (chs_ok ok hf)]
    split
    · rename_i hh
      obtain ⟨h1, h2⟩ := hh
      rw [chs_start] at h1 h2 ⊢
      have hsA := start_attr ok h1
      have hln := ok.len
      have hke : X.start n = (k : Int) := by rw [← h2]; exact Int.emod_eq_of_lt (by omega) (by show (k : Int) < X.r * X.c; omega)
      rw [hc _ hsA, hke]
      have hfit := ok.fit _ (List.mem_of_getElem? (Spc.at_nat ok hk))
      have hwf := (ok.at_wf (k : Int)).fa
      obtain ⟨d, hd⟩ : ∃ d, X.at_ (k : Int) = d := ⟨_, rfl⟩
      have hda : d.at_ = true := by rw [← hd]; exact hA
      rw [hd] at hfit hwf ⊢
      unfold Cl.fit at hfit
      rw [if_pos hda] at hfit
      have hm : d.mark.at_ = true := hda
      unfold Cl.fit
      rw [if_pos hm]
      have h6 : six05 d.fa = d.fa := congrArg Cl.fa hfit
      have h7 : (0 : Int) = d.ch := congrArg Cl.ch hfit
      have h8 := mark_or ⟨d.fa.toNat, by have := hwf.2; omega⟩
      have h9 : ((d.fa.toNat : Nat) : Int) = d.fa := by have := hwf.1; omega
      simp only [h9] at h8
      have h10 := h8 h6
      unfold orM Cl.mark
      simp only [h10, h7]
    · rw [hc _ hA]
theorem Only.code {X Z : Spc} {n : Int} (h : Only X Z n) (ok : X.Ok) {k : Nat} (hna : X.isA (k : Int) = false) : ({ Z.at_ (k : Int) with ch := 0 } : Cl) = { X.at_ (k : Int) with ch := 0 } := by
  rcases h with rfl | ⟨_, f, hf, _, rfl⟩
  · rfl
  · rw [modify_na (chs_ok ok hf) (by rw [chs_isA]; exact hna), chs_at ok]
    unfold putC
    split <;> rfl
theorem Only.far {X Z : Spc} {n : Int} (h : Only X Z n) (ok : X.Ok) {k : Nat} (hk : k < X.L.length) (hna : X.isA (k : Int) = false) (hs : X.start (k : Int) ≠ X.start n) : Z.at_ (k : Int) = X.at_ (k : Int) := by
  rcases h with rfl | ⟨_, f, hf, h3, rfl⟩
  · rfl
  · rw [modify_na (chs_ok ok hf) (by rw [chs_isA]; exact hna), chs_at ok]
    have hw : X.wrap (k : Int) = k := by
      have := wrap_at (X := X) (x := (k : Int)) (by omega) (by have := ok.len; omega)
      omega
    rw [hw, h3 k hk hna hs]
    unfold putC
    split <;> rfl
theorem Only.shut {X Z : Spc} {n : Int} (h : Only X Z n) (hs : 0 ≤ X.start n) (hp : fP (X.at_ (X.start n)).fa = true) : Z = X := by
  rcases h with rfl | ⟨ho, _⟩
  · rfl
  · exfalso
    unfold Spc.open_ at ho
    rw [hp, show decide (X.start n < 0) = false by simp; omega] at ho
    simp at ho
theorem end_any {p g : Nat} {X : Spc} {n : Int} {w : World} (hs : SAt w p g X) (ok : X.Ok) :
    Calls Try.prog 101 #[.pointer (some ⟨p, 0, none⟩), .int .i64 n] w fun e w' => ∃ b Z, e = .returned (.bool b) ∧ Only X Z n ∧ SAt w' p g Z ∧ Keep (two p g) w w' := by
  cases ho : X.open_ n
  · refine (cend_no hs ok ho).mono ?_
    rintro e w' ⟨rfl, hu⟩
    exact ⟨_, X, rfl, .inl rfl, hs.up hu, Keep.of_up hu⟩
  · refine (cend_yes hs ok ho).mono ?_
    rintro e w' ⟨rfl, hs', hk⟩
    exact ⟨_, _, rfl, end_only ok ho, hs', hk⟩
theorem del_any {p g : Nat} {X : Spc} {n : Int} {w : World} (hs : SAt w p g X) (ok : X.Ok) :
    Calls Try.prog 99 #[.pointer (some ⟨p, 0, none⟩), .int .i64 n] w fun e w' => ∃ b Z, e = .returned (.bool b) ∧ Only X Z n ∧ SAt w' p g Z ∧ Keep (two p g) w w' := by
  cases ho : X.open_ n
  · refine (cdel_no hs ok ho).mono ?_
    rintro e w' ⟨rfl, hu⟩
    exact ⟨_, X, rfl, .inl rfl, hs.up hu, Keep.of_up hu⟩
  · refine (cdel_yes hs ok ho).mono ?_
    rintro e w' ⟨rfl, hs', hk⟩
    exact ⟨_, _, rfl, del_only ok ho, hs', hk⟩
theorem ins_any {p g : Nat} {X : Spc} {n x : Int} {w : World} (hx : isB x) (hs : SAt w p g X) (ok : X.Ok) :
    Calls Try.prog 98 #[.pointer (some ⟨p, 0, none⟩), .int .i64 n, .int .u8 x] w fun e w' => ∃ b Z, e = .returned (.bool b) ∧ Only X Z n ∧ SAt w' p g Z ∧ Keep (two p g) w w' := by
  cases ho : X.open_ n
  · refine (cins_shut hs ok ho).mono ?_
    rintro e w' ⟨rfl, hu⟩
    exact ⟨_, X, rfl, .inl rfl, hs.up hu, Keep.of_up hu⟩
  · cases he : X.nul (X.roundL n) with
    | none =>
      refine (cins_full hs ok ho he).mono ?_
      rintro e w' ⟨rfl, hu⟩
      exact ⟨_, X, rfl, .inl rfl, hs.up hu, Keep.of_up hu⟩
    | some k =>
      refine (cins_yes hx hs ok ho he).mono ?_
      rintro e w' ⟨rfl, hs', hk⟩
      exact ⟨_, _, rfl, ins_only ok hx ho he, hs', hk⟩
set_option maxRecDepth 100000 in
set_option maxHeartbeats 6400000 in
theorem do14_is {p g : Nat} {X : Spc} {w : World} (d n t : Int) (c : Cl) (d0 : 0 ≤ d) (d1 : d ≤ 255) (d3 : 3 ≤ d % 6) (hc : c.Wf) (hs : SAt w p g X) (ok : X.Ok) :
    Calls Try.prog 103 #[.pointer (some ⟨p, 0, none⟩), .agg #[.int .u8 d, .int .i64 n, .int .i64 t, .int .u8 c.ch, .bool c.at_, .int .u8 c.fa, .int .u8 c.hi, .int .u8 c.co, .int .u8 c.se]] w fun e w' => ∃ v Z, e = .returned (.int .i64 v) ∧ Only X Z n ∧ SAt w' p g Z ∧ Keep (two p g) w w' := by
  have HS := Lib.hid hs
  have H3 := Lib.hid (fun W (h : SAt W p g X) => end_any (n := n) h ok)
  have H4 := Lib.hid (fun W (h : SAt W p g X) => del_any (n := n) h ok)
  have H5 := Lib.hid (fun W (h : SAt W p g X) => ins_any (n := n) hc.ch h ok)
  obtain ⟨ch, at_, fa, hi, co, se⟩ := c
  simp only at H5 ⊢
  clear hs ok hc
  have hmd : 0 ≤ d % 6 ∧ d % 6 < 6 := by omega
  obtain ⟨e6, he6⟩ : ∃ e6, d % 6 = e6 := ⟨_, rfl⟩
  rw [he6] at hmd d3
  rcases (show e6 = 3 ∨ e6 = 4 ∨ e6 = 5 by omega) with rfl | rfl | rfl
  all_goals
    have E0 : (d % 6 == 0) = false := by rw [he6]; decide
    have E1 : (d % 6 == 1) = false := by rw [he6]; decide
    have E2 : (d % 6 == 2) = false := by rw [he6]; decide
    (first | have E3 : (d % 6 == 3) = true := by rw [he6]; decide | have E3 : (d % 6 == 3) = false := by rw [he6]; decide)
    (first | have E4 : (d % 6 == 4) = true := by rw [he6]; decide | have E4 : (d % 6 == 4) = false := by rw [he6]; decide)
    clear he6 hmd d3
    go_enter Try.func103, Try.ntmps103
    go_wp2_with fail
    have HU0 := Lib.hid ((Up.refl w).alloc (.cells #[.int .u8 d, .int .i64 n, .int .i64 t, .int .u8 ch, .bool at_, .int .u8 fa, .int .u8 hi, .int .u8 co, .int .u8 se] 110))
    first
    | refine (H3.out _ (HS.out.up HU0.out)).mono ?_
    | refine (H4.out _ (HS.out.up HU0.out)).mono ?_
    | refine (H5.out _ (HS.out.up HU0.out)).mono ?_
    rintro e w1 ⟨b, Z, rfl, hon, hs1, hk1⟩
    have HR := Lib.hid (show Only X Z n ∧ SAt w1 p g Z ∧ Keep (two p g) w w1 from ⟨hon, hs1, (Keep.of_up HU0.out).trans hk1⟩)
    clear hon hs1 hk1
    cases b
    all_goals
      go_wp2_with fail
      go_ret
      exact ⟨_, Z, rfl, HR.out⟩
end Go.Proofs.Ytjokcfenncogkaa
