/-
  What the reference's Attrs, Clear and New do. No condition.
-/
import Derived.Test.YtjokcfenncogkaaRs2
import Derived.Test.YtjokcfenncogkaaListI
namespace Go.Proofs.Ytjokcfenncogkaa
open Go.RowKit
set_option linter.unusedVariables false
set_option linter.unusedSimpArgs false

def isAt (L : List Cl) (k : Nat) : Bool := (L.getD k Cl.zero).at_
/-- the places of attributes -/
def Spc.attrs (X : Spc) : List Int := those (isAt X.L) X.L.length
theorem isAt_of {L : List Cl} {k : Nat} {c : Cl} (h : L[k]? = some c) : isAt L k = c.at_ := by unfold isAt; rw [List.getD, h]; rfl

set_option maxHeartbeats 1600000 in
set_option maxRecDepth 100000 in
theorem rattrs_is {q h : Nat} {X : Spc} {w : World} (hr : RAt w q h X) (ok : X.Ok) :
    Calls Try.prog 70 #[.pointer (some ⟨q, 0, none⟩)] w fun e w' => ∃ A c, e = .returned (.slice A X.attrs.length c) ∧ OwnI w.heap.size w' A X.attrs.length c X.attrs ∧ Up w w' := by
  obtain ⟨i0, hi, hz0, hz1, hz2⟩ := info_parts info_i64
  have HCE := Lib.hid (fun k c hk => hr.cells.2.2 k c hk)
  obtain ⟨cap, q1, q2, k4⟩ := hr.h4
  have zp := hr.lt
  have zg := hr.cells.2.1
  have hsm := ok.small
  have hcp : (cap : Int) ≤ 9223372036854775807 := by simp [maxLen] at q2; omega
  unfold Spc.attrs
  obtain ⟨m, hm⟩ : ∃ m, X.L.length = m := ⟨_, rfl⟩
  have HM := Lib.hid hm
  rw [hm] at q1 k4 hsm ⊢
  clear hm hr ok q2
  generalize X.L = L at *
  go_enter Try.func70, Try.ntmps70
  go_wp2
  go_loopw [3, 11] (fun v q wr => ∃ (j : Nat) (A : Option Addr) (n c : Nat), j ≤ m ∧ v = .slice A n c ∧ q = .int .i64 (j : Int) ∧ OwnI w.heap.size wr A n c (those (isAt L) j) ∧ Up w wr) (fun _ q _ => m - (intOf q).toNat)
  case atStart => exact ⟨0, none, 0, 0, by omega, rfl, rfl, OwnI.nil _ _, Up.refl _⟩
  case round =>
    obtain ⟨j, A, n, c, hj, rfl, rfl, hown, hup⟩ := hrel
    have hl := those_len (isAt L) j
    have hn := hown.len
    have HUP := Lib.hid hup
    have HOW := Lib.hid hown
    have zw := hup.size
    have hn5 : n ≤ 65535 := by omega
    have zg2 : h < wr.heap.size := by omega
    by_cases hlt : j < m
    · obtain ⟨d, hd⟩ : ∃ d, L[j]? = some d := ⟨_, List.getElem?_eq_getElem (by have := HM.out; omega)⟩
      obtain ⟨x0, x1, x2, x3, x4, x5⟩ := (HCE.out j d hd).keep (hup.at_ h zg).1
      have hia := isAt_of hd
      clear hd hup hown hn hl
      obtain ⟨dch, da, dfa, dhi, dco, dse⟩ := d
      simp only at x0 x1 x2 x3 x4 x5 hia
      have hjm : (j : Int) < (m : Int) := by omega
      cases da
      · have HT := Lib.hid (those_f (f := isAt L) (n := j) hia)
        clear hia
        go_wp2
        go_roundw
        case rel => exact ⟨j + 1, A, n, c, by omega, rfl, by go_num, by rw [HT.out]; exact HOW.out.up (by (repeat (first | with_reducible exact Up.refl _ | with_reducible refine Up.alloc ?_ _ | with_reducible refine Up.drew ?_ | with_reducible refine Up.drewN ?_ _ | with_reducible refine Up.setCell ?_ (by (try simp) <;> omega) _ | with_reducible assumption | with_reducible refine Up.trans ?_ (by assumption)))), HUP.out.trans (by (repeat (first | with_reducible exact Up.refl _ | with_reducible refine Up.alloc ?_ _ | with_reducible refine Up.drew ?_ | with_reducible refine Up.drewN ?_ _ | with_reducible refine Up.setCell ?_ (by (try simp) <;> omega) _ | with_reducible assumption | with_reducible refine Up.trans ?_ (by assumption))))⟩
        case measure => simp [intOf]; omega
      · have HT := Lib.hid (those_t (f := isAt L) (n := j) hia)
        clear hia
        go_wp2_with (at_builtin; refine wpList_push i0 hi hz0 hz1 hz2 Try.underlying50 rfl (.tmp 18) (.tmp 20) rfl _ (j : Int) rfl _ (by simp) w.heap.size A n c (those (isAt L) j) rfl rfl (HOW.out.up (by (repeat (first | with_reducible exact Up.refl _ | with_reducible refine Up.alloc ?_ _ | with_reducible refine Up.drew ?_ | with_reducible refine Up.drewN ?_ _ | with_reducible refine Up.setCell ?_ (by (try simp) <;> omega) _ | with_reducible assumption | with_reducible refine Up.trans ?_ (by assumption))))) hn5 (by simp; omega) ?_; intro A2 c2 w2 hown2 hg2 hbl2 _; have HO2 := Lib.hid hown2; have HB2 := Lib.hid hbl2; clear hown2 hg2 hbl2)
        go_roundw
        case rel => exact ⟨j + 1, A2, n + 1, c2, by omega, rfl, by go_num, by rw [HT.out]; exact HO2.out, Up.past (HUP.out) ((Below.refl w.heap.size _).alloc (by omega) _ |>.trans HB2.out)⟩
        case measure => simp [intOf]; omega
    · obtain rfl : j = m := by omega
      clear hn hl
      go_wp2
      go_ret
      have hn := HOW.out.len
      subst hn
      exact ⟨A, c, rfl, HOW.out, HUP.out⟩
end Go.Proofs.Ytjokcfenncogkaa
