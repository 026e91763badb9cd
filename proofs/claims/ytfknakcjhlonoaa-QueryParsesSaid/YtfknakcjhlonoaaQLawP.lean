/-
  The walk of law 22's QueryParses. No condition.
-/
import Derived.Test.YtfknakcjhlonoaaQAwk
import Derived.Test.YtfknakcjhlonoaaQFind
namespace Go.Proofs.Ytfknakcjhlonoaa
open Go.RowKit
set_option linter.unusedVariables false
set_option linter.unusedSimpArgs false

theorem same_yes {B B' : Nat} {A A' : Option Addr} {n n' c c' : Nat} {l : List Int} {w : World} (h : Sl B w A n c l) (h' : Sl B' w A' n' c' l) :
    Calls Try.prog 12 #[.slice A n c, .slice A' n' c'] w fun e w' => e = .returned (.bool true) ∧ w = w' := by
  refine (same_sl h h').mono ?_
  rintro e w' ⟨rfl, rfl⟩
  exact ⟨by simp, rfl⟩
set_option maxRecDepth 100000 in
set_option maxHeartbeats 6400000 in
theorem law_parses (A : Option Addr) (n c : Nat) (l : List Int) (code : Int) (w : World) (hl : l.length = n) (hn : n ≤ c) (hc : c ≤ maxLen) (hw : ∀ x ∈ l, 0 ≤ x ∧ x ≤ 255) (hr : Reads w w.heap.size 1 A n (l.map (Value.int .u8))) (k0 : 0 ≤ code) (k1 : code ≤ 255) :
    Calls Try.prog 4 #[.slice A n c, .int .u8 code] w fun x w' => x = .returned (.bool true) ∧ Up w w' := by
  have HR : Hid (Reads w w.heap.size 1 A n (bs l)) := hr
  have HW := Lib.hid hw
  clear hr hw hl
  go_enter Try.func4, Try.ntmps4
  go_wp2_with fail
  refine (awake22 _).mono ?_
  rintro e wa ⟨rfl, ua⟩
  have UA := Lib.hid ua
  clear ua
  go_wp2_with fail
  refine (cut_sl (m := 300) (HR.out.up UA.out) HW.out hn hc (by omega)).mono ?_
  rintro e wb ⟨B1, d1, rfl, hs1, ub⟩
  obtain ⟨L, hL⟩ : ∃ L, l.take 300 = L := ⟨_, rfl⟩
  rw [hL] at hs1
  rw [hL]
  obtain ⟨N, hN⟩ : ∃ N, L.length = N := ⟨_, rfl⟩
  rw [hN] at hs1
  rw [hN]
  have HS1 := Lib.hid hs1
  have UB := Lib.hid (UA.out.trans ub)
  clear hs1 ub hL hN HR HW hn hc UA
  go_wp2_with fail
  refine (copy_sl HS1.out).mono ?_
  rintro e wc ⟨B2, d2, rfl, hs2, uc⟩
  have HS2 := Lib.hid hs2
  have UC := Lib.hid uc
  clear hs2 uc
  go_wp2_with fail
  refine (parse_is HS2.out).mono ?_
  rintro e wd ⟨B3, d3, n3, rfl, hs3, ud⟩
  have HS3 := Lib.hid hs3
  have UD := Lib.hid ud
  clear hs3 ud
  obtain ⟨ge, hge⟩ : ∃ ge, (repsOf L).2 = ge := ⟨_, rfl⟩
  rw [hge]
  have HGE := Lib.hid hge
  clear hge
  have HS1d := Lib.hid (HS1.out.up (UC.out.trans UD.out))
  go_wp2_with fail
  refine (rparse_is HS1d.out).mono ?_
  rintro e we ⟨B4, d4, n4, rfl, hs4, ue⟩
  rw [HGE.out]
  have HS4 := Lib.hid hs4
  have UE := Lib.hid ue
  clear hs4 ue
  have HS1e := Lib.hid (HS1d.out.up UE.out)
  have HS3e := Lib.hid (HS3.out.up UE.out)
  have UBE := Lib.hid (((UB.out.trans UC.out).trans UD.out).trans UE.out)
  clear HS1 HS2 UC UD UE HS1d HS3 UB
  go_wp2_with fail
  refine (size_is HS1e.out).mono ?_
  rintro e wf ⟨uf, h⟩
  have UF := Lib.hid uf
  have HS1f := Lib.hid (HS1e.out.up uf)
  clear uf HS1e
  obtain ⟨o1, ho1⟩ : ∃ o, hitOf (repsOf L).1 129 7 = o := ⟨_, rfl⟩
  rw [ho1] at h
  have HO1 := Lib.hid ho1
  clear ho1
  obtain ⟨o2, ho2⟩ : ∃ o, hitOf (repsOf L).1 133 15 = o := ⟨_, rfl⟩
  have HO2 := Lib.hid ho2
  clear ho2
  rcases h with ⟨h, rfl⟩ | ⟨d, h, rfl, hb⟩
  · have HA := Lib.hid (show valOf (hitOf (repsOf L).1 129 7) 5 = -1 by rw [HO1.out, h]; rfl)
    have HB := Lib.hid (show valOf (hitOf (repsOf L).1 129 7) 3 = -1 by rw [HO1.out, h]; rfl)
    clear h
    go_wp2_with fail
    refine (number_is HS1f.out).mono ?_
    rintro e wg ⟨ug, h⟩
    have UG := Lib.hid ug
    have HS1g := Lib.hid (HS1f.out.up ug)
    clear ug
    rw [HO2.out] at h
    rcases h with ⟨h, rfl⟩ | ⟨d2, h, rfl, hb⟩
    · have HC := Lib.hid (show valOf (hitOf (repsOf L).1 133 15) 13 = -1 by rw [HO2.out, h]; rfl)
      clear h
      go_wp2_with fail
      refine (rnum_is (code := 129) (at_ := 5) (size := 7) HS1g.out (by omega) (by omega) (by omega)).mono ?_
      rintro e wh ⟨rfl, uh⟩
      rw [HA.out]
      have UH := Lib.hid uh
      have HS1h := Lib.hid (HS1g.out.up uh)
      clear uh
      go_wp2_with fail
      refine (rnum_is (code := 129) (at_ := 3) (size := 7) HS1h.out (by omega) (by omega) (by omega)).mono ?_
      rintro e wi ⟨rfl, ui⟩
      rw [HB.out]
      have UI := Lib.hid ui
      have HS1i := Lib.hid (HS1h.out.up ui)
      clear ui
      go_wp2_with fail
      refine (rnum_is (code := 133) (at_ := 13) (size := 15) HS1i.out (by omega) (by omega) (by omega)).mono ?_
      rintro e wj ⟨rfl, uj⟩
      rw [HC.out]
      have UJ := Lib.hid uj
      have UALL := Lib.hid ((((UF.out.trans UG.out).trans UH.out).trans UI.out).trans uj)
      clear uj
      obtain ⟨s, hs⟩ : ∃ s, nmS (ixOf code) = s := ⟨_, rfl⟩
      have HN1 := Lib.hid (fun W => name_is code W)
      have HN2 := Lib.hid (fun W => rname_is code W)
      rw [hs] at HN1 HN2
      clear hs
      go_wp2_with (first | (go_at_call 12; refine (same_yes (HS3e.out.up UALL.out) (HS4.out.up UALL.out)).mono ?_; rintro e w9 ⟨rfl, rfl⟩) | (go_at_call 19; refine (HN1.out _).mono ?_; rintro e w9 ⟨rfl, rfl⟩) | (go_at_call 20; refine (HN2.out _).mono ?_; rintro e w9 ⟨rfl, u9⟩))
      go_ret
      exact ⟨by first | rfl | simp, (UBE.out.trans UALL.out).trans u9⟩
    · obtain ⟨v13, hv13⟩ : ∃ v, two_ d2 13 = v := ⟨_, rfl⟩
      rw [hv13]
      obtain ⟨g0, g1⟩ := hb 13
      rw [hv13] at g0 g1
      have HC := Lib.hid (show valOf (hitOf (repsOf L).1 133 15) 13 = v13 by rw [HO2.out, h]; exact hv13)
      clear hb hv13 h
      go_wp2_with fail
      refine (rnum_is (code := 129) (at_ := 5) (size := 7) HS1g.out (by omega) (by omega) (by omega)).mono ?_
      rintro e wh ⟨rfl, uh⟩
      rw [HA.out]
      have UH := Lib.hid uh
      have HS1h := Lib.hid (HS1g.out.up uh)
      clear uh
      go_wp2_with fail
      refine (rnum_is (code := 129) (at_ := 3) (size := 7) HS1h.out (by omega) (by omega) (by omega)).mono ?_
      rintro e wi ⟨rfl, ui⟩
      rw [HB.out]
      have UI := Lib.hid ui
      have HS1i := Lib.hid (HS1h.out.up ui)
      clear ui
      go_wp2_with fail
      refine (rnum_is (code := 133) (at_ := 13) (size := 15) HS1i.out (by omega) (by omega) (by omega)).mono ?_
      rintro e wj ⟨rfl, uj⟩
      rw [HC.out]
      have UJ := Lib.hid uj
      have UALL := Lib.hid ((((UF.out.trans UG.out).trans UH.out).trans UI.out).trans uj)
      clear uj
      obtain ⟨s, hs⟩ : ∃ s, nmS (ixOf code) = s := ⟨_, rfl⟩
      have HN1 := Lib.hid (fun W => name_is code W)
      have HN2 := Lib.hid (fun W => rname_is code W)
      rw [hs] at HN1 HN2
      clear hs
      go_wp2_with (first | (go_at_call 12; refine (same_yes (HS3e.out.up UALL.out) (HS4.out.up UALL.out)).mono ?_; rintro e w9 ⟨rfl, rfl⟩) | (go_at_call 19; refine (HN1.out _).mono ?_; rintro e w9 ⟨rfl, rfl⟩) | (go_at_call 20; refine (HN2.out _).mono ?_; rintro e w9 ⟨rfl, u9⟩))
      go_ret
      exact ⟨by first | rfl | simp, (UBE.out.trans UALL.out).trans u9⟩
  · obtain ⟨v5, hv5⟩ : ∃ v, two_ d 5 = v := ⟨_, rfl⟩
    obtain ⟨v3, hv3⟩ : ∃ v, two_ d 3 = v := ⟨_, rfl⟩
    rw [hv5, hv3]
    obtain ⟨a0, a1⟩ := hb 5
    obtain ⟨b0, b1⟩ := hb 3
    rw [hv5] at a0 a1
    rw [hv3] at b0 b1
    have HA := Lib.hid (show valOf (hitOf (repsOf L).1 129 7) 5 = v5 by rw [HO1.out, h]; exact hv5)
    have HB := Lib.hid (show valOf (hitOf (repsOf L).1 129 7) 3 = v3 by rw [HO1.out, h]; exact hv3)
    clear hb hv5 hv3 h
    go_wp2_with fail
    refine (number_is HS1f.out).mono ?_
    rintro e wg ⟨ug, h⟩
    have UG := Lib.hid ug
    have HS1g := Lib.hid (HS1f.out.up ug)
    clear ug
    rw [HO2.out] at h
    rcases h with ⟨h, rfl⟩ | ⟨d2, h, rfl, hb⟩
    · have HC := Lib.hid (show valOf (hitOf (repsOf L).1 133 15) 13 = -1 by rw [HO2.out, h]; rfl)
      clear h
      go_wp2_with fail
      refine (rnum_is (code := 129) (at_ := 5) (size := 7) HS1g.out (by omega) (by omega) (by omega)).mono ?_
      rintro e wh ⟨rfl, uh⟩
      rw [HA.out]
      have UH := Lib.hid uh
      have HS1h := Lib.hid (HS1g.out.up uh)
      clear uh
      go_wp2_with fail
      refine (rnum_is (code := 129) (at_ := 3) (size := 7) HS1h.out (by omega) (by omega) (by omega)).mono ?_
      rintro e wi ⟨rfl, ui⟩
      rw [HB.out]
      have UI := Lib.hid ui
      have HS1i := Lib.hid (HS1h.out.up ui)
      clear ui
      go_wp2_with fail
      refine (rnum_is (code := 133) (at_ := 13) (size := 15) HS1i.out (by omega) (by omega) (by omega)).mono ?_
      rintro e wj ⟨rfl, uj⟩
      rw [HC.out]
      have UJ := Lib.hid uj
      have UALL := Lib.hid ((((UF.out.trans UG.out).trans UH.out).trans UI.out).trans uj)
      clear uj
      obtain ⟨s, hs⟩ : ∃ s, nmS (ixOf code) = s := ⟨_, rfl⟩
      have HN1 := Lib.hid (fun W => name_is code W)
      have HN2 := Lib.hid (fun W => rname_is code W)
      rw [hs] at HN1 HN2
      clear hs
      go_wp2_with (first | (go_at_call 12; refine (same_yes (HS3e.out.up UALL.out) (HS4.out.up UALL.out)).mono ?_; rintro e w9 ⟨rfl, rfl⟩) | (go_at_call 19; refine (HN1.out _).mono ?_; rintro e w9 ⟨rfl, rfl⟩) | (go_at_call 20; refine (HN2.out _).mono ?_; rintro e w9 ⟨rfl, u9⟩))
      go_ret
      exact ⟨by first | rfl | simp, (UBE.out.trans UALL.out).trans u9⟩
    · obtain ⟨v13, hv13⟩ : ∃ v, two_ d2 13 = v := ⟨_, rfl⟩
      rw [hv13]
      obtain ⟨g0, g1⟩ := hb 13
      rw [hv13] at g0 g1
      have HC := Lib.hid (show valOf (hitOf (repsOf L).1 133 15) 13 = v13 by rw [HO2.out, h]; exact hv13)
      clear hb hv13 h
      go_wp2_with fail
      refine (rnum_is (code := 129) (at_ := 5) (size := 7) HS1g.out (by omega) (by omega) (by omega)).mono ?_
      rintro e wh ⟨rfl, uh⟩
      rw [HA.out]
      have UH := Lib.hid uh
      have HS1h := Lib.hid (HS1g.out.up uh)
      clear uh
      go_wp2_with fail
      refine (rnum_is (code := 129) (at_ := 3) (size := 7) HS1h.out (by omega) (by omega) (by omega)).mono ?_
      rintro e wi ⟨rfl, ui⟩
      rw [HB.out]
      have UI := Lib.hid ui
      have HS1i := Lib.hid (HS1h.out.up ui)
      clear ui
      go_wp2_with fail
      refine (rnum_is (code := 133) (at_ := 13) (size := 15) HS1i.out (by omega) (by omega) (by omega)).mono ?_
      rintro e wj ⟨rfl, uj⟩
      rw [HC.out]
      have UJ := Lib.hid uj
      have UALL := Lib.hid ((((UF.out.trans UG.out).trans UH.out).trans UI.out).trans uj)
      clear uj
      obtain ⟨s, hs⟩ : ∃ s, nmS (ixOf code) = s := ⟨_, rfl⟩
      have HN1 := Lib.hid (fun W => name_is code W)
      have HN2 := Lib.hid (fun W => rname_is code W)
      rw [hs] at HN1 HN2
      clear hs
      go_wp2_with (first | (go_at_call 12; refine (same_yes (HS3e.out.up UALL.out) (HS4.out.up UALL.out)).mono ?_; rintro e w9 ⟨rfl, rfl⟩) | (go_at_call 19; refine (HN1.out _).mono ?_; rintro e w9 ⟨rfl, rfl⟩) | (go_at_call 20; refine (HN2.out _).mono ?_; rintro e w9 ⟨rfl, u9⟩))
      go_ret
      exact ⟨by first | rfl | simp, (UBE.out.trans UALL.out).trans u9⟩
end Go.Proofs.Ytfknakcjhlonoaa
