/-
  The document's Row. No condition.
-/
import Derived.Test.YtjokcfenncogkaaAwk
import Derived.BigQuiet
namespace Go.Proofs.Ytjokcfenncogkaa
open Go.RowKit
set_option linter.unusedVariables false
set_option linter.unusedSimpArgs false

set_option maxRecDepth 100000 in
set_option maxHeartbeats 6400000 in
theorem rrow_is {q h : Nat} {X : Spc} {w : World} (n : Int) (hr : RAt w q h X) (ok : X.Ok) :
    Calls Try.prog 96 #[.pointer (some ⟨q, 0, none⟩), .int .i64 n] w fun e w' => ∃ A c, e = .returned (.slice A (X.row n).length c) ∧ OwnI w.heap.size w' A (X.row n).length c (X.row n) ∧ Up w w' := by
  obtain ⟨i0, hi, hz0, hz1, hz2⟩ := info_parts info_i64
  have HR := Lib.hid hr
  obtain ⟨k, hk⟩ : ∃ k, X.wrap n = k := ⟨_, rfl⟩
  have hw := ok.wrap n
  rw [hk] at hw
  have HW := Lib.hid (rwrap_at n hr ok hk)
  obtain ⟨a0, a1, a2, a3, a4, a5⟩ := valid_facts ok.valid
  obtain ⟨hn1, hn2, hn3⟩ := rowN_is X (k : Int)
  have hln := ok.len
  have hsm := ok.small
  obtain ⟨b1, b2, b3⟩ := rest_bd ok (k := (k : Int)) (by omega) (by have := hw.2; omega)
  have hrow : X.row n = rowTo (k : Int) (X.rowN (k : Int)) := by unfold Spc.row; rw [hw.1]
  have hrl := rowTo_len (k : Int) (X.rowN (k : Int))
  rw [hrow, hrl]
  have HAT := Lib.hid (fun (j : Nat) (hj : j < X.L.length) => Spc.at_nat ok hj)
  have hkc := Int.mul_ediv_add_emod (k : Int) X.c
  have hkq := mod_facts (k : Int) X.c a2
  have HTM := Lib.hid (fun (j : Nat) (hj : (k : Int) % X.c + j < X.c) => show ((k + j : Nat) : Int).tmod X.c = (k : Int) % X.c + j by
    rw [Int.tmod_eq_emod_of_nonneg (by omega), show ((k + j : Nat) : Int) = ((k : Int) % X.c + j) + X.c * ((k : Int) / X.c) by omega, Int.add_mul_emod_self_left, Int.emod_eq_of_lt (by omega) hj])
  generalize X.rowN (k : Int) = rn at *
  generalize X.rest (k : Int) = rs at *
  have hkl := hw.2
  obtain ⟨m, hm⟩ : ∃ m, X.L.length = m := ⟨_, rfl⟩
  rw [hm] at HAT hln hsm hkl
  have HM := Lib.hid hm
  have HN2 := Lib.hid hn2
  have HN3 := Lib.hid hn3
  have hkm : k + rs ≤ m := by omega
  obtain ⟨kc, hkce⟩ : ∃ kc, (k : Int) % X.c = kc := ⟨_, rfl⟩
  rw [hkce] at HTM hkq b2
  clear hr ok hk hw hrow hrl hn2 hn3 hkc hm hkce b3 a4 a5 hln
  go_enter Try.func96, Try.ntmps96
  go_wp2_with fail
  refine HW.out.mono ?_
  rintro e w1 ⟨rfl, hu1⟩
  have HU1 := Lib.hid hu1
  have HR1 := Lib.hid (HR.out.up hu1)
  have z1 := hu1.size
  clear hu1
  go_wp2_with fail
  go_loopw [1, 5] (fun i v wr => ∃ (j : Nat) (A : Option Addr) (c : Nat), j ≤ rn ∧ j < rs ∧ i = .int .i64 ((k + j : Nat) : Int) ∧ v = .slice A j c ∧ OwnI w1.heap.size wr A j c (rowTo (k : Int) j) ∧ Up w1 wr) (fun i _ _ => m - (intOf i).toNat)
  case atStart => exact ⟨0, none, 0, by omega, by omega, rfl, rfl, by simpa [rowTo] using OwnI.nil _ _, Up.refl _⟩
  case round =>
    obtain ⟨j, A, c, hj, hjr, rfl, rfl, hown, huj⟩ := hrel
    have HUJ := Lib.hid huj
    have HOW := Lib.hid hown
    have zj := huj.size
    have hlt : k + j < m := by omega
    have hat := HAT.out (k + j) hlt
    have htm := HTM.out j (by omega)
    have HSU := Lib.hid (rowTo_succ (k : Int) j)
    rw [show (k : Int) + (j : Int) = ((k + j : Nat) : Int) by omega] at HSU
    have HF := Lib.hid (fun hh => HN2.out j hh)
    have HG := Lib.hid HN3.out
    rw [show (k : Int) + (j : Int) = ((k + j : Nat) : Int) by omega] at HF
    have HKJ := Lib.hid (show j = rn → (k : Int) + (rn : Int) = ((k + j : Nat) : Int) from fun e => by omega)
    obtain ⟨d, hd⟩ : ∃ d, X.at_ ((k + j : Nat) : Int) = d := ⟨_, rfl⟩
    have hAd : X.isA ((k + j : Nat) : Int) = d.at_ := by unfold Spc.isA; rw [hd]
    have HAD := Lib.hid hAd
    rw [hd] at hat
    have hrw := HR1.out.up huj
    have x1 := (hrw.cells.2.2 (k + j) d hat).h1
    have k3 := hrw.h3
    obtain ⟨cap, q1, q2, k4⟩ := hrw.h4
    have zp := hrw.lt
    have zg := hrw.cells.2.1
    rw [HM.out] at q1 k4
    have hcp : (cap : Int) ≤ 9223372036854775807 := by simp [maxLen] at q2; omega
    obtain ⟨t, ht⟩ : ∃ t, k + j = t := ⟨_, rfl⟩
    rw [ht] at hlt htm HSU HF HKJ x1 HAD ⊢
    have HT := Lib.hid ht
    have htm2 : (t : Int) < (m : Int) := by omega
    obtain ⟨dch, da, dfa, dhi, dco, dse⟩ := d
    simp only at x1 HAD
    obtain ⟨cc, hcc⟩ : ∃ cc, X.c = cc := ⟨_, rfl⟩
    have HCC := Lib.hid hcc
    rw [hcc] at a2 a3 b2 hkq htm k3
    clear hcc
    have hbd := tmod_bd (t : Int) cc a2
    have hcz : (cc == 0) = false := by simp; omega
    clear hat hd hAd hrw hown huj q2 ht
    cases da
    · have hjn : j < rn := by
        rcases Nat.lt_or_ge j rn with h1 | h1
        · exact h1
        · exfalso
          have h2 := HG.out (by omega)
          rw [HKJ.out (by omega), HAD.out] at h2
          cases h2
      obtain ⟨v, hv⟩ : ∃ v, (t : Int).tmod cc = v := ⟨_, rfl⟩
      rw [hv] at htm hbd
      go_wp2_with (at_builtin; refine wpList_push i0 hi hz0 hz1 hz2 Try.underlying50 rfl (.tmp 29) (.tmp 31) rfl _ (t : Int) rfl _ (by simp) w1.heap.size A j c (rowTo (k : Int) j) rfl rfl (HOW.out.up (by (repeat (first | with_reducible exact Up.refl _ | with_reducible refine Up.alloc ?_ _ | with_reducible refine Up.drew ?_ | with_reducible refine Up.drewN ?_ _ | with_reducible refine Up.setCell ?_ (by (try simp) <;> omega) _ | with_reducible assumption | with_reducible refine Up.trans ?_ (by assumption))))) (by omega) (by (try simp) <;> omega) ?_; intro A2 c2 w5 hown2 hg2 hbl2 _; have HO2 := Lib.hid hown2; have HB2 := Lib.hid hbl2; have k35 := (HR1.out.up (Up.past HUJ.out hbl2)).h3; have zp5 := (HR1.out.up (Up.past HUJ.out hbl2)).lt; rw [HCC.out] at k35; have HU5 := Lib.hid (Up.past HUJ.out hbl2); clear hown2 hg2 hbl2)
      go_quiet (fail)
      go_wp2
      · have hx : kc + (j : Int) = cc - 1 := by first | omega | (have := ‹(kc + (j : Int) == cc - 1) = true›; simpa using this)
        obtain rfl : rn = j + 1 := by omega
        go_ret
        exact ⟨A2, c2, rfl, by rw [HSU.out]; exact (HO2.out.up ((Up.refl _).drewN _)).low (by omega), (HU1.out.trans HU5.out).drewN _⟩
      · have hx : ¬ kc + (j : Int) = cc - 1 := by first | omega | (have := ‹(kc + (j : Int) == cc - 1) = false›; simpa using this) | (intro e; simp_all)
        go_roundw
        case rel => exact ⟨j + 1, A2, c2, by omega, by omega, by have := HT.out; congr 1; omega, rfl, by rw [HSU.out]; exact HO2.out.up ((Up.refl _).drewN _), HU5.out.drewN _⟩
        case measure => simp [intOf]; omega
    · obtain rfl : j = rn := by
        rcases Nat.lt_or_ge j rn with h1 | h1
        · have := HF.out h1
          rw [HAD.out] at this; cases this
        · omega
      go_wp2
      go_ret
      exact ⟨A, c, rfl, HOW.out.low (by omega), HU1.out.trans HUJ.out⟩
end Go.Proofs.Ytjokcfenncogkaa
