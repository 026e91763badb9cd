/-
  The walk of SpaceTold: whatever the model, the script and the stop, it returns true. No condition but where the acts lie.
-/
import Derived.Test.YtjokcfenncogkaaAtts12
import Derived.Test.YtjokcfenncogkaaNil12
import Derived.Test.YtjokcfenncogkaaLaw12a
namespace Go.Proofs.Ytjokcfenncogkaa
open Go.RowKit
set_option linter.unusedVariables false
set_option linter.unusedSimpArgs false

theorem calls_up {f : Nat} {args : Array Value} {w : World} {x : Value} (h : Calls Try.prog f args w fun e w' => e = .returned x ∧ w = w') : Calls Try.prog f args w fun e w' => e = .returned x ∧ Up w w' := h.mono (by rintro e w' ⟨rfl, rfl⟩; exact ⟨rfl, Up.refl _⟩)
theorem sat_none (n : Int) (w : World) : Calls Try.prog 27 #[.pointer none, .int .i64 n] w fun e w' => e = .returned (.agg #[.int .u8 0, .bool false, .int .u8 0, .int .u8 0, .int .u8 0, .int .u8 0]) ∧ Up w w' := sat_nil
theorem eqCz (W : World) : (Op.equalIn 10000 25 (.agg #[.int .u8 0, .bool false, .int .u8 0, .int .u8 0, .int .u8 0, .int .u8 0]) (.agg #[.int .u8 0, .bool false, .int .u8 0, .int .u8 0, .int .u8 0, .int .u8 0])).run Try.prog W = .ok true W := eqC (c := Cl.zero) (d := Cl.zero) (by simp) W
set_option maxRecDepth 100000 in
set_option maxHeartbeats 12800000 in
theorem law_told_bad (m : Int) (A : Option Addr) (n cap : Nat) (st : Int) (w : World) (hm : ¬ (2 ≤ m ∧ m ≤ 5)) :
    Calls Try.prog 9 #[.int .i64 m, .slice A n cap, .int .u16 st] w fun e w' => e = .returned (.bool true) ∧ Up w w' := by
  have HB := Lib.hid hm
  have ea := eqCz
  have f0 := fld0
  clear hm
  go_enter Try.func9, Try.ntmps9
  go_wp2_with fail
  refine (awake12 _).mono ?_
  rintro e w0 ⟨rfl, hb_w0⟩
  have hu_w0 : Up w w0 := by (repeat (first | with_reducible exact Up.refl _ | with_reducible refine Up.alloc ?_ _ | with_reducible refine Up.drew ?_ | with_reducible refine Up.drewN ?_ _ | with_reducible refine Up.setCell ?_ (by (try simp) <;> omega) _ | with_reducible assumption | with_reducible refine Up.trans ?_ (by assumption)))
  have hz_w0 := Up.size hb_w0
  try simp at hz_w0
  go_wp2_with fail
  refine (snew_bad HB.out).mono ?_
  rintro e w1 ⟨rfl, hb_w1⟩
  have hu_w1 : Up w0 w1 := by (repeat (first | with_reducible exact Up.refl _ | with_reducible refine Up.alloc ?_ _ | with_reducible refine Up.drew ?_ | with_reducible refine Up.drewN ?_ _ | with_reducible refine Up.setCell ?_ (by (try simp) <;> omega) _ | with_reducible assumption | with_reducible refine Up.trans ?_ (by assumption)))
  have hz_w1 := Up.size hb_w1
  try simp at hz_w1
  go_wp2_with fail
  refine (rnew_bad HB.out).mono ?_
  rintro e w2 ⟨rfl, hb_w2⟩
  have hu_w2 : Up w1 w2 := by (repeat (first | with_reducible exact Up.refl _ | with_reducible refine Up.alloc ?_ _ | with_reducible refine Up.drew ?_ | with_reducible refine Up.drewN ?_ _ | with_reducible refine Up.setCell ?_ (by (try simp) <;> omega) _ | with_reducible assumption | with_reducible refine Up.trans ?_ (by assumption)))
  have hz_w2 := Up.size hb_w2
  try simp at hz_w2
  go_wp2_with fail
  refine (sset_nil).mono ?_
  rintro e w3 ⟨rfl, hb_w3⟩
  have hu_w3 : Up w2 w3 := by (repeat (first | with_reducible exact Up.refl _ | with_reducible refine Up.alloc ?_ _ | with_reducible refine Up.drew ?_ | with_reducible refine Up.drewN ?_ _ | with_reducible refine Up.setCell ?_ (by (try simp) <;> omega) _ | with_reducible assumption | with_reducible refine Up.trans ?_ (by assumption)))
  have hz_w3 := Up.size hb_w3
  try simp at hz_w3
  go_wp2_with fail
  refine (calls_up sput_nil).mono ?_
  rintro e w4 ⟨rfl, hb_w4⟩
  have hu_w4 : Up w3 w4 := by (repeat (first | with_reducible exact Up.refl _ | with_reducible refine Up.alloc ?_ _ | with_reducible refine Up.drew ?_ | with_reducible refine Up.drewN ?_ _ | with_reducible refine Up.setCell ?_ (by (try simp) <;> omega) _ | with_reducible assumption | with_reducible refine Up.trans ?_ (by assumption)))
  have hz_w4 := Up.size hb_w4
  try simp at hz_w4
  go_wp2_with fail
  refine (calls_up splace_nil).mono ?_
  rintro e w5 ⟨rfl, hb_w5⟩
  have hu_w5 : Up w4 w5 := by (repeat (first | with_reducible exact Up.refl _ | with_reducible refine Up.alloc ?_ _ | with_reducible refine Up.drew ?_ | with_reducible refine Up.drewN ?_ _ | with_reducible refine Up.setCell ?_ (by (try simp) <;> omega) _ | with_reducible assumption | with_reducible refine Up.trans ?_ (by assumption)))
  have hz_w5 := Up.size hb_w5
  try simp at hz_w5
  go_wp2_with fail
  refine (calls_up sclear_nil).mono ?_
  rintro e w6 ⟨rfl, hb_w6⟩
  have hu_w6 : Up w5 w6 := by (repeat (first | with_reducible exact Up.refl _ | with_reducible refine Up.alloc ?_ _ | with_reducible refine Up.drew ?_ | with_reducible refine Up.drewN ?_ _ | with_reducible refine Up.setCell ?_ (by (try simp) <;> omega) _ | with_reducible assumption | with_reducible refine Up.trans ?_ (by assumption)))
  have hz_w6 := Up.size hb_w6
  try simp at hz_w6
  go_wp2_with fail
  refine (lcells_nil).mono ?_
  rintro e w7 ⟨rfl, hb_w7⟩
  have hu_w7 : Up w6 w7 := by (repeat (first | with_reducible exact Up.refl _ | with_reducible refine Up.alloc ?_ _ | with_reducible refine Up.drew ?_ | with_reducible refine Up.drewN ?_ _ | with_reducible refine Up.setCell ?_ (by (try simp) <;> omega) _ | with_reducible assumption | with_reducible refine Up.trans ?_ (by assumption)))
  have hz_w7 := Up.size hb_w7
  try simp at hz_w7
  go_wp2_with fail
  refine (ssize_nil).mono ?_
  rintro e w8 ⟨rfl, hb_w8⟩
  have hu_w8 : Up w7 w8 := by (repeat (first | with_reducible exact Up.refl _ | with_reducible refine Up.alloc ?_ _ | with_reducible refine Up.drew ?_ | with_reducible refine Up.drewN ?_ _ | with_reducible refine Up.setCell ?_ (by (try simp) <;> omega) _ | with_reducible assumption | with_reducible refine Up.trans ?_ (by assumption)))
  have hz_w8 := Up.size hb_w8
  try simp at hz_w8
  go_wp2_with fail
  refine (calls_up smodel_nil).mono ?_
  rintro e w9 ⟨rfl, hb_w9⟩
  have hu_w9 : Up w8 w9 := by (repeat (first | with_reducible exact Up.refl _ | with_reducible refine Up.alloc ?_ _ | with_reducible refine Up.drew ?_ | with_reducible refine Up.drewN ?_ _ | with_reducible refine Up.setCell ?_ (by (try simp) <;> omega) _ | with_reducible assumption | with_reducible refine Up.trans ?_ (by assumption)))
  have hz_w9 := Up.size hb_w9
  try simp at hz_w9
  go_wp2_with fail
  refine (calls_up salt_nil).mono ?_
  rintro e w10 ⟨rfl, hb_w10⟩
  have hu_w10 : Up w9 w10 := by (repeat (first | with_reducible exact Up.refl _ | with_reducible refine Up.alloc ?_ _ | with_reducible refine Up.drew ?_ | with_reducible refine Up.drewN ?_ _ | with_reducible refine Up.setCell ?_ (by (try simp) <;> omega) _ | with_reducible assumption | with_reducible refine Up.trans ?_ (by assumption)))
  have hz_w10 := Up.size hb_w10
  try simp at hz_w10
  go_wp2_with fail
  refine (sat_none _ _).mono ?_
  rintro e w11 ⟨rfl, hb_w11⟩
  have hu_w11 : Up w10 w11 := by (repeat (first | with_reducible exact Up.refl _ | with_reducible refine Up.alloc ?_ _ | with_reducible refine Up.drew ?_ | with_reducible refine Up.drewN ?_ _ | with_reducible refine Up.setCell ?_ (by (try simp) <;> omega) _ | with_reducible assumption | with_reducible refine Up.trans ?_ (by assumption)))
  have hz_w11 := Up.size hb_w11
  try simp at hz_w11
  go_wp2_with fail
  refine (calls_up scur_nil).mono ?_
  rintro e w12 ⟨rfl, hb_w12⟩
  have hu_w12 : Up w11 w12 := by (repeat (first | with_reducible exact Up.refl _ | with_reducible refine Up.alloc ?_ _ | with_reducible refine Up.drew ?_ | with_reducible refine Up.drewN ?_ _ | with_reducible refine Up.setCell ?_ (by (try simp) <;> omega) _ | with_reducible assumption | with_reducible refine Up.trans ?_ (by assumption)))
  have hz_w12 := Up.size hb_w12
  try simp at hz_w12
  go_wp2_with fail
  refine (calls_up sform_nil).mono ?_
  rintro e w13 ⟨rfl, hb_w13⟩
  have hu_w13 : Up w12 w13 := by (repeat (first | with_reducible exact Up.refl _ | with_reducible refine Up.alloc ?_ _ | with_reducible refine Up.drew ?_ | with_reducible refine Up.drewN ?_ _ | with_reducible refine Up.setCell ?_ (by (try simp) <;> omega) _ | with_reducible assumption | with_reducible refine Up.trans ?_ (by assumption)))
  have hz_w13 := Up.size hb_w13
  try simp at hz_w13
  go_wp2_with fail
  refine (calls_up scopy_nil).mono ?_
  rintro e w14 ⟨rfl, hb_w14⟩
  have hu_w14 : Up w13 w14 := by (repeat (first | with_reducible exact Up.refl _ | with_reducible refine Up.alloc ?_ _ | with_reducible refine Up.drew ?_ | with_reducible refine Up.drewN ?_ _ | with_reducible refine Up.setCell ?_ (by (try simp) <;> omega) _ | with_reducible assumption | with_reducible refine Up.trans ?_ (by assumption)))
  have hz_w14 := Up.size hb_w14
  try simp at hz_w14
  go_wp2_with fail
  refine (calls_up ssame_nn).mono ?_
  rintro e w15 ⟨rfl, hb_w15⟩
  have hu_w15 : Up w14 w15 := by (repeat (first | with_reducible exact Up.refl _ | with_reducible refine Up.alloc ?_ _ | with_reducible refine Up.drew ?_ | with_reducible refine Up.drewN ?_ _ | with_reducible refine Up.setCell ?_ (by (try simp) <;> omega) _ | with_reducible assumption | with_reducible refine Up.trans ?_ (by assumption)))
  have hz_w15 := Up.size hb_w15
  try simp at hz_w15
  go_wp2_with fail
  refine (calls_up ssame_nn).mono ?_
  rintro e w16 ⟨rfl, hb_w16⟩
  have hu_w16 : Up w15 w16 := by (repeat (first | with_reducible exact Up.refl _ | with_reducible refine Up.alloc ?_ _ | with_reducible refine Up.drew ?_ | with_reducible refine Up.drewN ?_ _ | with_reducible refine Up.setCell ?_ (by (try simp) <;> omega) _ | with_reducible assumption | with_reducible refine Up.trans ?_ (by assumption)))
  have hz_w16 := Up.size hb_w16
  try simp at hz_w16
  go_wp2_with fail
  refine (diff_nil).mono ?_
  rintro e w17 ⟨rfl, hb_w17⟩
  have hu_w17 : Up w16 w17 := by (repeat (first | with_reducible exact Up.refl _ | with_reducible refine Up.alloc ?_ _ | with_reducible refine Up.drew ?_ | with_reducible refine Up.drewN ?_ _ | with_reducible refine Up.setCell ?_ (by (try simp) <;> omega) _ | with_reducible assumption | with_reducible refine Up.trans ?_ (by assumption)))
  have hz_w17 := Up.size hb_w17
  try simp at hz_w17
  go_wp2_with fail
  go_ret
  exact ⟨rfl, by (repeat (first | with_reducible exact Up.refl _ | with_reducible refine Up.alloc ?_ _ | with_reducible refine Up.drew ?_ | with_reducible refine Up.drewN ?_ _ | with_reducible refine Up.setCell ?_ (by (try simp) <;> omega) _ | with_reducible assumption | with_reducible refine Up.trans ?_ (by assumption)))⟩
theorem eq_rms {A A' : Option Addr} {n n' c c' : Nat} {L : List Int} {w : World} (hr : Reads w w.heap.size 1 A n (ns L)) (h' : RMs L (.slice A' n' c') w) (hn : L.length ≤ 65536) :
    Calls Try.prog 58 #[.slice A n c, .slice A' n' c'] w fun e w' => e = .returned (.bool true) ∧ Up w w' := by
  obtain ⟨B, m, d, he, _, _, _, hr'⟩ := h'
  injection he with e1 e2 e3
  subst e1; subst e2; subst e3
  exact eq_ms hr hr' hn
set_option maxRecDepth 100000 in
set_option maxHeartbeats 12800000 in
theorem law_told_good (m : Int) (A : Option Addr) (n cap : Nat) (l : List ActR) (st : Int) (w : World) (hm2 : 2 ≤ m) (hm5 : m ≤ 5) (hl : l.length = n) (hn : n ≤ cap) (hc : cap ≤ maxLen) (hok : ∀ x ∈ l, x.Ok w w.heap.size) (hr : Reads w w.heap.size 11 A n (l.flatMap ActR.enc)) (s0 : 0 ≤ st) (s1 : st ≤ 65535) :
    Calls Try.prog 9 #[.int .i64 m, .slice A n cap, .int .u16 st] w fun e w' => e = .returned (.bool true) ∧ Up w w' := by
  have HR := Lib.hid hr
  have HOK := Lib.hid hok
  have HL := Lib.hid hl
  have hcp : (cap : Int) ≤ 9223372036854775807 := by simp [maxLen] at hc; omega
  have HOX := Lib.hid (newS_ok hm2 hm5)
  have HWF := Lib.hid (show ∀ a ∈ plains l, a.Wf from fun a ha => by simp only [plains, List.mem_map] at ha; obtain ⟨x, hx, rfl⟩ := ha; exact (hok x hx).wf)
  have ea := eqCz
  have f0 := fld0
  clear hr hok hl
  go_enter Try.func9, Try.ntmps9
  go_wp2_with fail
  refine (awake12 _).mono ?_
  rintro e w0 ⟨rfl, hb_w0⟩
  have hu_w0 : Up w w0 := by (repeat (first | with_reducible exact Up.refl _ | with_reducible refine Up.alloc ?_ _ | with_reducible refine Up.drew ?_ | with_reducible refine Up.drewN ?_ _ | with_reducible refine Up.setCell ?_ (by (try simp) <;> omega) _ | with_reducible assumption | with_reducible refine Up.trans ?_ (by assumption)))
  have hz_w0 := Up.size hb_w0
  try simp at hz_w0
  go_wp2_with fail
  refine (snew_is (m := m) hm2 hm5).mono ?_
  rintro e w1 ⟨p, g, rfl, hp, hg, hs1, hu1⟩
  have HS1 := Lib.hid hs1
  have HU1 := Lib.hid hu1
  have zp1 := hs1.lt
  have zg1 := hs1.cells.2.1
  have z1 := hu1.size
  clear hs1 hu1
  go_wp2_with fail
  refine (rnew_is (m := m) hm2 hm5).mono ?_
  rintro e w2 ⟨q, h, rfl, hq, hh, hr2, hu2⟩
  have HP2 := Lib.hid (show Pair w.heap.size w2 p q (newS m) from Pair.of (HS1.out.up hu2) hr2 (by omega) (by omega))
  have HU2 := Lib.hid (show Up w w2 from hu_w0.trans (HU1.out.trans hu2))
  have z2 := hu2.size
  clear hr2 hu2
  go_wp2_with fail
  refine (sset_nil).mono ?_
  rintro e w3 ⟨rfl, hb_w3⟩
  have hu_w3 : Up w2 w3 := by (repeat (first | with_reducible exact Up.refl _ | with_reducible refine Up.alloc ?_ _ | with_reducible refine Up.drew ?_ | with_reducible refine Up.drewN ?_ _ | with_reducible refine Up.setCell ?_ (by (try simp) <;> omega) _ | with_reducible assumption | with_reducible refine Up.trans ?_ (by assumption)))
  have hz_w3 := Up.size hb_w3
  try simp at hz_w3
  go_wp2_with fail
  refine (calls_up sput_nil).mono ?_
  rintro e w4 ⟨rfl, hb_w4⟩
  have hu_w4 : Up w3 w4 := by (repeat (first | with_reducible exact Up.refl _ | with_reducible refine Up.alloc ?_ _ | with_reducible refine Up.drew ?_ | with_reducible refine Up.drewN ?_ _ | with_reducible refine Up.setCell ?_ (by (try simp) <;> omega) _ | with_reducible assumption | with_reducible refine Up.trans ?_ (by assumption)))
  have hz_w4 := Up.size hb_w4
  try simp at hz_w4
  go_wp2_with fail
  refine (calls_up splace_nil).mono ?_
  rintro e w5 ⟨rfl, hb_w5⟩
  have hu_w5 : Up w4 w5 := by (repeat (first | with_reducible exact Up.refl _ | with_reducible refine Up.alloc ?_ _ | with_reducible refine Up.drew ?_ | with_reducible refine Up.drewN ?_ _ | with_reducible refine Up.setCell ?_ (by (try simp) <;> omega) _ | with_reducible assumption | with_reducible refine Up.trans ?_ (by assumption)))
  have hz_w5 := Up.size hb_w5
  try simp at hz_w5
  go_wp2_with fail
  refine (calls_up sclear_nil).mono ?_
  rintro e w6 ⟨rfl, hb_w6⟩
  have hu_w6 : Up w5 w6 := by (repeat (first | with_reducible exact Up.refl _ | with_reducible refine Up.alloc ?_ _ | with_reducible refine Up.drew ?_ | with_reducible refine Up.drewN ?_ _ | with_reducible refine Up.setCell ?_ (by (try simp) <;> omega) _ | with_reducible assumption | with_reducible refine Up.trans ?_ (by assumption)))
  have hz_w6 := Up.size hb_w6
  try simp at hz_w6
  go_wp2_with fail
  refine (lcells_nil).mono ?_
  rintro e w7 ⟨rfl, hb_w7⟩
  have hu_w7 : Up w6 w7 := by (repeat (first | with_reducible exact Up.refl _ | with_reducible refine Up.alloc ?_ _ | with_reducible refine Up.drew ?_ | with_reducible refine Up.drewN ?_ _ | with_reducible refine Up.setCell ?_ (by (try simp) <;> omega) _ | with_reducible assumption | with_reducible refine Up.trans ?_ (by assumption)))
  have hz_w7 := Up.size hb_w7
  try simp at hz_w7
  go_wp2_with fail
  refine (ssize_nil).mono ?_
  rintro e w8 ⟨rfl, hb_w8⟩
  have hu_w8 : Up w7 w8 := by (repeat (first | with_reducible exact Up.refl _ | with_reducible refine Up.alloc ?_ _ | with_reducible refine Up.drew ?_ | with_reducible refine Up.drewN ?_ _ | with_reducible refine Up.setCell ?_ (by (try simp) <;> omega) _ | with_reducible assumption | with_reducible refine Up.trans ?_ (by assumption)))
  have hz_w8 := Up.size hb_w8
  try simp at hz_w8
  go_wp2_with fail
  refine (calls_up smodel_nil).mono ?_
  rintro e w9 ⟨rfl, hb_w9⟩
  have hu_w9 : Up w8 w9 := by (repeat (first | with_reducible exact Up.refl _ | with_reducible refine Up.alloc ?_ _ | with_reducible refine Up.drew ?_ | with_reducible refine Up.drewN ?_ _ | with_reducible refine Up.setCell ?_ (by (try simp) <;> omega) _ | with_reducible assumption | with_reducible refine Up.trans ?_ (by assumption)))
  have hz_w9 := Up.size hb_w9
  try simp at hz_w9
  go_wp2_with fail
  refine (calls_up salt_nil).mono ?_
  rintro e w10 ⟨rfl, hb_w10⟩
  have hu_w10 : Up w9 w10 := by (repeat (first | with_reducible exact Up.refl _ | with_reducible refine Up.alloc ?_ _ | with_reducible refine Up.drew ?_ | with_reducible refine Up.drewN ?_ _ | with_reducible refine Up.setCell ?_ (by (try simp) <;> omega) _ | with_reducible assumption | with_reducible refine Up.trans ?_ (by assumption)))
  have hz_w10 := Up.size hb_w10
  try simp at hz_w10
  go_wp2_with fail
  refine (sat_none _ _).mono ?_
  rintro e w11 ⟨rfl, hb_w11⟩
  have hu_w11 : Up w10 w11 := by (repeat (first | with_reducible exact Up.refl _ | with_reducible refine Up.alloc ?_ _ | with_reducible refine Up.drew ?_ | with_reducible refine Up.drewN ?_ _ | with_reducible refine Up.setCell ?_ (by (try simp) <;> omega) _ | with_reducible assumption | with_reducible refine Up.trans ?_ (by assumption)))
  have hz_w11 := Up.size hb_w11
  try simp at hz_w11
  go_wp2_with fail
  refine (calls_up scur_nil).mono ?_
  rintro e w12 ⟨rfl, hb_w12⟩
  have hu_w12 : Up w11 w12 := by (repeat (first | with_reducible exact Up.refl _ | with_reducible refine Up.alloc ?_ _ | with_reducible refine Up.drew ?_ | with_reducible refine Up.drewN ?_ _ | with_reducible refine Up.setCell ?_ (by (try simp) <;> omega) _ | with_reducible assumption | with_reducible refine Up.trans ?_ (by assumption)))
  have hz_w12 := Up.size hb_w12
  try simp at hz_w12
  go_wp2_with fail
  refine (calls_up sform_nil).mono ?_
  rintro e w13 ⟨rfl, hb_w13⟩
  have hu_w13 : Up w12 w13 := by (repeat (first | with_reducible exact Up.refl _ | with_reducible refine Up.alloc ?_ _ | with_reducible refine Up.drew ?_ | with_reducible refine Up.drewN ?_ _ | with_reducible refine Up.setCell ?_ (by (try simp) <;> omega) _ | with_reducible assumption | with_reducible refine Up.trans ?_ (by assumption)))
  have hz_w13 := Up.size hb_w13
  try simp at hz_w13
  go_wp2_with fail
  refine (calls_up scopy_nil).mono ?_
  rintro e w14 ⟨rfl, hb_w14⟩
  have hu_w14 : Up w13 w14 := by (repeat (first | with_reducible exact Up.refl _ | with_reducible refine Up.alloc ?_ _ | with_reducible refine Up.drew ?_ | with_reducible refine Up.drewN ?_ _ | with_reducible refine Up.setCell ?_ (by (try simp) <;> omega) _ | with_reducible assumption | with_reducible refine Up.trans ?_ (by assumption)))
  have hz_w14 := Up.size hb_w14
  try simp at hz_w14
  go_wp2_with fail
  refine (calls_up ssame_nn).mono ?_
  rintro e w15 ⟨rfl, hb_w15⟩
  have hu_w15 : Up w14 w15 := by (repeat (first | with_reducible exact Up.refl _ | with_reducible refine Up.alloc ?_ _ | with_reducible refine Up.drew ?_ | with_reducible refine Up.drewN ?_ _ | with_reducible refine Up.setCell ?_ (by (try simp) <;> omega) _ | with_reducible assumption | with_reducible refine Up.trans ?_ (by assumption)))
  have hz_w15 := Up.size hb_w15
  try simp at hz_w15
  go_wp2_with fail
  refine (calls_up ssame_ns).mono ?_
  rintro e w16 ⟨rfl, hb_w16⟩
  have hu_w16 : Up w15 w16 := by (repeat (first | with_reducible exact Up.refl _ | with_reducible refine Up.alloc ?_ _ | with_reducible refine Up.drew ?_ | with_reducible refine Up.drewN ?_ _ | with_reducible refine Up.setCell ?_ (by (try simp) <;> omega) _ | with_reducible assumption | with_reducible refine Up.trans ?_ (by assumption)))
  have hz_w16 := Up.size hb_w16
  try simp at hz_w16
  go_wp2_with fail
  refine (diff_nil).mono ?_
  rintro e w17 ⟨rfl, hb_w17⟩
  have hu_w17 : Up w16 w17 := by (repeat (first | with_reducible exact Up.refl _ | with_reducible refine Up.alloc ?_ _ | with_reducible refine Up.drew ?_ | with_reducible refine Up.drewN ?_ _ | with_reducible refine Up.setCell ?_ (by (try simp) <;> omega) _ | with_reducible assumption | with_reducible refine Up.trans ?_ (by assumption)))
  have hz_w17 := Up.size hb_w17
  try simp at hz_w17
  go_wp2_with fail
  have hu17 : Up w2 w17 := by (repeat (first | with_reducible exact Up.refl _ | with_reducible refine Up.alloc ?_ _ | with_reducible refine Up.drew ?_ | with_reducible refine Up.drewN ?_ _ | with_reducible refine Up.setCell ?_ (by (try simp) <;> omega) _ | with_reducible assumption | with_reducible refine Up.trans ?_ (by assumption)))
  have z17 := hu17.size
  have HP17 := Lib.hid (HP2.out.up hu17)
  have HU17 := Lib.hid (HU2.out.trans hu17)
  clear HP2 HU2 hu17
  go_loopw [116] (fun i wr => ∃ j : Nat, j ≤ n ∧ i = .int .i64 (j : Int) ∧ Pair w.heap.size wr p q (acts (newS m) (plains l) (min j 20)) ∧ Below w.heap.size w17 wr) (fun i _ => n - (intOf i).toNat)
  case atStart => exact ⟨0, by omega, rfl, by simpa [acts] using HP17.out, Below.refl _ _⟩
  case round =>
    obtain ⟨j, hj, rfl, hrj, huj⟩ := hrel
    have HRJ := Lib.hid hrj
    have HUJ := Lib.hid huj
    have zz := huj.size
    have HUW := Lib.hid (show Up w wr from HU17.out.past (huj.mono (by omega)))
    have HOJ := Lib.hid (acts_ok HOX.out HWF.out (min j 20))
    clear hrj
    by_cases hlt : j < n
    · obtain ⟨x, hx⟩ : ∃ x, l[j]? = some x := ⟨_, List.getElem?_eq_getElem (by have := HL.out; omega)⟩
      have hxok := (HOK.out x (List.mem_of_getElem? hx)).keep HUW.out
      have hrd := HR.out.below HUW.out
      obtain ⟨b, off, rfl, hb⟩ := hrd.form (by omega)
      have hrow := row_at (k := 11) (enc := ActR.enc) (fun _ => rfl) hrd hx (by omega)
      have x0 := hrow 0 _ rfl
      have x1 := hrow 1 _ rfl
      have x2 := hrow 2 _ rfl
      have x3 := hrow 3 _ rfl
      have x4 := hrow 4 _ rfl
      have x5 := hrow 5 _ rfl
      have x6 := hrow 6 _ rfl
      have x7 := hrow 7 _ rfl
      have x8 := hrow 8 _ rfl
      have x9 := hrow 9 _ rfl
      have x10 := hrow 10 _ rfl
      rw [Nat.add_zero] at x0
      have zb : b < wr.heap.size := by omega
      have HXK := Lib.hid hxok
      have hpl : (plains l)[j]? = some x.a := by simp [plains, hx]
      have HAS := Lib.hid (acts_succ (newS m) (plains l) j)
      rw [hpl] at HAS
      simp only at HAS
      have hjn : (j : Int) < (n : Int) := by omega
      clear hrow hrd hxok hx hpl huj
      by_cases h30 : j < 20
      · have h30' : (j : Int) < 20 := by omega
        have hmin : min j 20 = j := by omega
        have HMIN := Lib.hid (show min (j + 1) 20 = j + 1 by omega)
        rw [hmin] at HRJ HOJ
        clear hmin
        go_wp2_with fail
        refine (do12_is (B := w.heap.size) x.a x.A x.cap HXK.out.wf (HRJ.out.up (by (repeat (first | with_reducible exact Up.refl _ | with_reducible refine Up.alloc ?_ _ | with_reducible refine Up.drew ?_ | with_reducible refine Up.drewN ?_ _ | with_reducible refine Up.setCell ?_ (by (try simp) <;> omega) _ | with_reducible assumption | with_reducible refine Up.trans ?_ (by assumption))))) HOJ.out ((HXK.out.rd.alloc (by omega) _).more (by omega)) (by simp; omega) HXK.out.le HXK.out.mx).mono ?_
        rintro e w3 ⟨rfl, hr3, hb3⟩
        have HR3 := Lib.hid hr3
        have HB3 := Lib.hid (show Below w.heap.size w17 w3 from HUJ.out.trans (((Below.refl _ wr).alloc (by omega) _).trans hb3))
        clear hr3 hb3
        go_wp2
        go_roundw
        case rel => exact ⟨j + 1, by omega, by go_num, by rw [HMIN.out, HAS.out]; exact HR3.out, HB3.out⟩
        case measure => simp [intOf]; omega
      · have h30' : ¬ (j : Int) < 20 := by omega
        have hmin : min j 20 = min (j + 1) 20 := by omega
        rw [hmin] at HRJ
        clear hmin
        go_wp2
        go_roundw
        case rel => exact ⟨j + 1, by omega, by go_num, HRJ.out.up (by (repeat (first | with_reducible exact Up.refl _ | with_reducible refine Up.alloc ?_ _ | with_reducible refine Up.drew ?_ | with_reducible refine Up.drewN ?_ _ | with_reducible refine Up.setCell ?_ (by (try simp) <;> omega) _ | with_reducible assumption | with_reducible refine Up.trans ?_ (by assumption)))), HUJ.out.trans ((Below.refl _ wr).alloc (by omega) _)⟩
        case measure => simp [intOf]; omega
    · obtain rfl : j = n := by omega
      rw [acts_min (by simp [plains, HL.out])] at HRJ
      have HOX2 := Lib.hid (acts_ok HOX.out HWF.out 20)
      obtain ⟨X, hX⟩ : ∃ X, acts (newS m) (plains l) 20 = X := ⟨_, rfl⟩
      rw [hX] at HRJ HOX2
      clear hX HOJ HL HOX HWF
      obtain ⟨g', h', hs, hr, hne, hbb⟩ := HRJ.out
      have HS := Lib.hid hs
      have HRR := Lib.hid hr
      have hsm := HOX2.out.small
      have hbg := HOX2.out.big
      obtain ⟨kk, hk⟩ : ∃ kk : Nat, 1 + st % 2500 = (kk : Int) := ⟨(1 + st % 2500).toNat, by omega⟩
      have hk1 : 1 ≤ kk := by omega
      have hk2 : kk ≤ 2500 := by omega
      obtain ⟨CL, hCL⟩ : ∃ CL, X.L.take kk = CL := ⟨_, rfl⟩
      obtain ⟨La, hLa⟩ : ∃ La, X.attrs = La := ⟨_, rfl⟩
      obtain ⟨L2, hL2⟩ : ∃ L2, La.take 2 = L2 := ⟨_, rfl⟩
      have hlc : CL.length = min kk X.L.length := by rw [← hCL, List.length_take]
      have hl2 : L2.length = min 2 La.length := by rw [← hL2, List.length_take]
      have hla : La.length ≤ 65536 := by have := those_len (isAt X.L) X.L.length; rw [← hLa]; unfold Spc.attrs; omega
      have HLC := Lib.hid (fun W (hs : SAt W p g' X) => lcells_is (most := kk) hs HOX2.out hk1 (by omega) hCL)
      have HLA := Lib.hid (fun W (hs : SAt W p g' X) => show Calls Try.prog 72 #[.pointer (some ⟨p, 0, none⟩), .int .i64 2] W fun e w' => ∃ A c, e = .returned (.slice A L2.length c) ∧ OwnI W.heap.size w' A L2.length c L2 ∧ Up W w' from lattrs_is (most := 2) hs HOX2.out (by omega) (by omega) (by rw [hLa]; exact hL2))
      have hT2 : ns L2 = (ns La).take (L2.length * 1) := by
        rw [← hL2, List.length_take]
        unfold ns
        rw [← List.map_take]
        congr 1
        rw [Nat.mul_one]
        rcases Nat.le_total 2 La.length with hx | hx
        · rw [Nat.min_eq_left hx]
        · rw [Nat.min_eq_right hx, List.take_of_length_le hx, List.take_length]
      have HT2 := Lib.hid hT2
      have hc0 : 0 < CL.length := by omega
      have hl26 : L2.length ≤ 65536 := by omega
      have hcl6 : CL.length ≤ 65536 := by omega
      have HCT := Lib.hid (hr.cells.take kk hCL)
      have RA := Lib.hid (rattrs_is hr HOX2.out)
      rw [hLa] at RA
      obtain ⟨cap', q1, q2, k4⟩ := hr.h4
      have k4w := k4
      have hcp' : (cap' : Int) ≤ 9223372036854775807 := by simp [maxLen] at q2; omega
      have zq := hr.lt
      clear huj hs hr hne hbb HRJ hT2
      go_wp2_with fail
      try simp only [hk]
      refine RA.out.mono ?_
      rintro e w18 ⟨AL, cL, rfl, hoL, hu18⟩
      have zz18 := hu18.size
      have zq18 : q < w18.heap.size := by omega
      have k4' := ((hu18.at_ q zq).1 4).trans k4
      have HOL := Lib.hid hoL
      have hle := hoL.le
      have hmx := hoL.mx
      have hcL : (cL : Int) ≤ 9223372036854775807 := by simp [maxLen] at hmx; omega
      have hsl : La.length ≤ cL := hle
      have HRX : Hid (∀ k2, k2 = L2.length → RMs L2 (.slice AL k2 cL) w18) := Lib.hid fun k2 hk2 => by
        subst hk2
        exact ⟨AL, _, cL, rfl, rfl, trivial, trivial, by rw [HT2.out]; exact (hoL.reads).take (by omega)⟩
      clear k4 hoL hCL hLa hL2 hk
      generalize hlen : X.L.length = mX at *
      clear hlen
      have HU18 := Lib.hid (HUW.out.trans hu18)
      have HS18 := Lib.hid (HS.out.up hu18)
      have HC18 := Lib.hid (HCT.out.up hu18)
      clear hu18
      by_cases c1 : kk < mX
      · have HX1 := Lib.hid (show kk = CL.length by omega)
        by_cases c2 : 2 < La.length
        · have HRL := Lib.hid (HRX.out 2 (by omega))
          clear hlc hl2
          go_wp2_with fail
          refine wp_region_mix (NS := [(136, RCs CL), (152, RMs L2)]) [136, 152] rfl (by kernel_rfl) (by kernel_rfl) (by simp) (by intro p hp; simp only [List.mem_cons, List.mem_nil_iff, or_false] at hp; rcases hp with rfl | rfl; all_goals (first | exact rsl_up _ | exact rptr_up _ | exact rms_up _ | exact spanAt_up _ _ _ _ _ | exact rcs_up _ | exact rfb_up _ _)) ?_
          repeat (first
            | (refine mix_skip rfl rfl ?_; simp only [Act.put, List.setIfInBounds_toArray, List.set_cons_succ, List.set_cons_zero])
            | (refine mix_q rfl rfl rfl (by kernel_rfl) rfl rfl rfl ?_
               apply Exists.intro
               refine ⟨fun Wm => ?_, ?_⟩
               · simp only [fin]
                 repeat (rintro (vm : Value) hvm; first | (obtain ⟨gm, om, rfl, hgm, hcm⟩ := hvm) | (obtain ⟨gm, om, cm, rfl, h2m, hxm, hgm, hcm, hdm⟩ := rsl_two hvm) | (obtain ⟨Am, nm, cm, rfl, hnm, hlm, hmm, hrm⟩ := hvm; (try simp only [List.length_cons, List.length_nil, Nat.zero_add, Nat.reduceAdd] at hnm); subst hnm) | (have hvs := hvm; obtain ⟨bm1, bm2, bm3, rfl, hbl, hbz, hbc⟩ := hvm))
                 intro K hK
                 go_wp2_with ((first | (go_at_call 65; (with_reducible refine (HLC.out _ (HS18.out.up (up_upOf _ _))).mono ?_); rintro e w' ⟨Ax, cx, rfl, hRx, hux⟩; have hRy := OwnC.told hRx hc0) | (go_at_call 71; obtain ⟨gx, rfl, hcx⟩ := hrm; (with_reducible refine (eq_cs hcx (HC18.out.up (up_upOf _ _)) hcl6 rfl HX1.out hlm (by omega) hmm q2).mono ?_); rintro e w' ⟨rfl, hux⟩) | (go_at_call 72; (with_reducible refine (HLA.out _ (HS18.out.up (up_upOf _ _))).mono ?_); rintro e w' ⟨Ax, cx, rfl, hRx, hux⟩; have hRy := OwnI.told hRx) | (go_at_call 58; (with_reducible refine (eq_rms hrm (rms_up _ _ _ _ HRL.out (up_upOf _ _)) hl26).mono ?_); rintro e w' ⟨rfl, hux⟩) | (go_at_call 35; (with_reducible refine (ssame_sn).mono ?_); rintro e w' ⟨rfl, rfl⟩)))
                 refine hK _ _ ?_ ?_ ?_
                 · (repeat (first | with_reducible exact Up.refl _ | with_reducible refine Up.alloc ?_ _ | with_reducible refine Up.drew ?_ | with_reducible refine Up.drewN ?_ _ | with_reducible refine Up.setCell ?_ (by (try simp) <;> omega) _ | with_reducible assumption | with_reducible refine Up.trans ?_ (by assumption)))
                 · rfl
                 · exact tmps_at rfl
               simp only [Act.put, List.setIfInBounds_toArray, List.set_cons_succ, List.set_cons_zero])
            | (refine mix_n rfl rfl rfl (by kernel_rfl) rfl rfl rfl ?_ ?_
               · intro Wm
                 simp only [fin]
                 repeat (rintro (vm : Value) hvm; first | (obtain ⟨gm, om, rfl, hgm, hcm⟩ := hvm) | (obtain ⟨gm, om, cm, rfl, h2m, hxm, hgm, hcm, hdm⟩ := rsl_two hvm) | (obtain ⟨Am, nm, cm, rfl, hnm, hlm, hmm, hrm⟩ := hvm; (try simp only [List.length_cons, List.length_nil, Nat.zero_add, Nat.reduceAdd] at hnm); subst hnm) | (have hvs := hvm; obtain ⟨bm1, bm2, bm3, rfl, hbl, hbz, hbc⟩ := hvm))
                 intro K hK
                 go_wp2_with ((first | (go_at_call 65; (with_reducible refine (HLC.out _ (HS18.out.up (up_upOf _ _))).mono ?_); rintro e w' ⟨Ax, cx, rfl, hRx, hux⟩; have hRy := OwnC.told hRx hc0) | (go_at_call 71; obtain ⟨gx, rfl, hcx⟩ := hrm; (with_reducible refine (eq_cs hcx (HC18.out.up (up_upOf _ _)) hcl6 rfl HX1.out hlm (by omega) hmm q2).mono ?_); rintro e w' ⟨rfl, hux⟩) | (go_at_call 72; (with_reducible refine (HLA.out _ (HS18.out.up (up_upOf _ _))).mono ?_); rintro e w' ⟨Ax, cx, rfl, hRx, hux⟩; have hRy := OwnI.told hRx) | (go_at_call 58; (with_reducible refine (eq_rms hrm (rms_up _ _ _ _ HRL.out (up_upOf _ _)) hl26).mono ?_); rintro e w' ⟨rfl, hux⟩) | (go_at_call 35; (with_reducible refine (ssame_sn).mono ?_); rintro e w' ⟨rfl, rfl⟩)))
                 apply hK
                 · (repeat (first | with_reducible exact Up.refl _ | with_reducible refine Up.alloc ?_ _ | with_reducible refine Up.drew ?_ | with_reducible refine Up.drewN ?_ _ | with_reducible refine Up.setCell ?_ (by (try simp) <;> omega) _ | with_reducible assumption | with_reducible refine Up.trans ?_ (by assumption)))
                 · rfl
                 · exact tmps_at rfl
                 · first | exact rsl_lit _ _ _ _ _ _ rfl rfl (by simp [maxLen]) rfl | exact ⟨_, _, rfl, hgm, hcm⟩ | exact ⟨_, _, rfl, hgm, hdm⟩ | assumption
               simp only [Act.put, List.setIfInBounds_toArray, List.set_cons_succ, List.set_cons_zero]))
          refine mix_nil ?_
          intro w19 hb_w19
          simp only [fin]
          intro vm_w19_0 hvm_w19_0
          intro vm_w19_1 hvm_w19_1
          simp only [Act.put, List.setIfInBounds_toArray, List.set_cons_succ, List.set_cons_zero]
          have hu_w19 : Up w18 w19 := by (repeat (first | with_reducible exact Up.refl _ | with_reducible refine Up.alloc ?_ _ | with_reducible refine Up.drew ?_ | with_reducible refine Up.drewN ?_ _ | with_reducible refine Up.setCell ?_ (by (try simp) <;> omega) _ | with_reducible assumption | with_reducible refine Up.trans ?_ (by assumption)))
          have hz_w19 := Up.size hb_w19
          try simp at hz_w19
          obtain ⟨bc_w19_0, bf_w19_0⟩ := hu_w19.at_ (q) (by omega)
          have zb_w19_0 : q < w19.heap.size := by omega
          go_wp2_with fail
          go_ret
          exact ⟨rfl, HU18.out.trans hb_w19⟩
        · have HRL := Lib.hid (HRX.out La.length (by omega))
          clear hlc hl2
          go_wp2_with fail
          refine wp_region_mix (NS := [(136, RCs CL), (152, RMs L2)]) [136, 152] rfl (by kernel_rfl) (by kernel_rfl) (by simp) (by intro p hp; simp only [List.mem_cons, List.mem_nil_iff, or_false] at hp; rcases hp with rfl | rfl; all_goals (first | exact rsl_up _ | exact rptr_up _ | exact rms_up _ | exact spanAt_up _ _ _ _ _ | exact rcs_up _ | exact rfb_up _ _)) ?_
          repeat (first
            | (refine mix_skip rfl rfl ?_; simp only [Act.put, List.setIfInBounds_toArray, List.set_cons_succ, List.set_cons_zero])
            | (refine mix_q rfl rfl rfl (by kernel_rfl) rfl rfl rfl ?_
               apply Exists.intro
               refine ⟨fun Wm => ?_, ?_⟩
               · simp only [fin]
                 repeat (rintro (vm : Value) hvm; first | (obtain ⟨gm, om, rfl, hgm, hcm⟩ := hvm) | (obtain ⟨gm, om, cm, rfl, h2m, hxm, hgm, hcm, hdm⟩ := rsl_two hvm) | (obtain ⟨Am, nm, cm, rfl, hnm, hlm, hmm, hrm⟩ := hvm; (try simp only [List.length_cons, List.length_nil, Nat.zero_add, Nat.reduceAdd] at hnm); subst hnm) | (have hvs := hvm; obtain ⟨bm1, bm2, bm3, rfl, hbl, hbz, hbc⟩ := hvm))
                 intro K hK
                 go_wp2_with ((first | (go_at_call 65; (with_reducible refine (HLC.out _ (HS18.out.up (up_upOf _ _))).mono ?_); rintro e w' ⟨Ax, cx, rfl, hRx, hux⟩; have hRy := OwnC.told hRx hc0) | (go_at_call 71; obtain ⟨gx, rfl, hcx⟩ := hrm; (with_reducible refine (eq_cs hcx (HC18.out.up (up_upOf _ _)) hcl6 rfl HX1.out hlm (by omega) hmm q2).mono ?_); rintro e w' ⟨rfl, hux⟩) | (go_at_call 72; (with_reducible refine (HLA.out _ (HS18.out.up (up_upOf _ _))).mono ?_); rintro e w' ⟨Ax, cx, rfl, hRx, hux⟩; have hRy := OwnI.told hRx) | (go_at_call 58; (with_reducible refine (eq_rms hrm (rms_up _ _ _ _ HRL.out (up_upOf _ _)) hl26).mono ?_); rintro e w' ⟨rfl, hux⟩) | (go_at_call 35; (with_reducible refine (ssame_sn).mono ?_); rintro e w' ⟨rfl, rfl⟩)))
                 refine hK _ _ ?_ ?_ ?_
                 · (repeat (first | with_reducible exact Up.refl _ | with_reducible refine Up.alloc ?_ _ | with_reducible refine Up.drew ?_ | with_reducible refine Up.drewN ?_ _ | with_reducible refine Up.setCell ?_ (by (try simp) <;> omega) _ | with_reducible assumption | with_reducible refine Up.trans ?_ (by assumption)))
                 · rfl
                 · exact tmps_at rfl
               simp only [Act.put, List.setIfInBounds_toArray, List.set_cons_succ, List.set_cons_zero])
            | (refine mix_n rfl rfl rfl (by kernel_rfl) rfl rfl rfl ?_ ?_
               · intro Wm
                 simp only [fin]
                 repeat (rintro (vm : Value) hvm; first | (obtain ⟨gm, om, rfl, hgm, hcm⟩ := hvm) | (obtain ⟨gm, om, cm, rfl, h2m, hxm, hgm, hcm, hdm⟩ := rsl_two hvm) | (obtain ⟨Am, nm, cm, rfl, hnm, hlm, hmm, hrm⟩ := hvm; (try simp only [List.length_cons, List.length_nil, Nat.zero_add, Nat.reduceAdd] at hnm); subst hnm) | (have hvs := hvm; obtain ⟨bm1, bm2, bm3, rfl, hbl, hbz, hbc⟩ := hvm))
                 intro K hK
                 go_wp2_with ((first | (go_at_call 65; (with_reducible refine (HLC.out _ (HS18.out.up (up_upOf _ _))).mono ?_); rintro e w' ⟨Ax, cx, rfl, hRx, hux⟩; have hRy := OwnC.told hRx hc0) | (go_at_call 71; obtain ⟨gx, rfl, hcx⟩ := hrm; (with_reducible refine (eq_cs hcx (HC18.out.up (up_upOf _ _)) hcl6 rfl HX1.out hlm (by omega) hmm q2).mono ?_); rintro e w' ⟨rfl, hux⟩) | (go_at_call 72; (with_reducible refine (HLA.out _ (HS18.out.up (up_upOf _ _))).mono ?_); rintro e w' ⟨Ax, cx, rfl, hRx, hux⟩; have hRy := OwnI.told hRx) | (go_at_call 58; (with_reducible refine (eq_rms hrm (rms_up _ _ _ _ HRL.out (up_upOf _ _)) hl26).mono ?_); rintro e w' ⟨rfl, hux⟩) | (go_at_call 35; (with_reducible refine (ssame_sn).mono ?_); rintro e w' ⟨rfl, rfl⟩)))
                 apply hK
                 · (repeat (first | with_reducible exact Up.refl _ | with_reducible refine Up.alloc ?_ _ | with_reducible refine Up.drew ?_ | with_reducible refine Up.drewN ?_ _ | with_reducible refine Up.setCell ?_ (by (try simp) <;> omega) _ | with_reducible assumption | with_reducible refine Up.trans ?_ (by assumption)))
                 · rfl
                 · exact tmps_at rfl
                 · first | exact rsl_lit _ _ _ _ _ _ rfl rfl (by simp [maxLen]) rfl | exact ⟨_, _, rfl, hgm, hcm⟩ | exact ⟨_, _, rfl, hgm, hdm⟩ | assumption
               simp only [Act.put, List.setIfInBounds_toArray, List.set_cons_succ, List.set_cons_zero]))
          refine mix_nil ?_
          intro w19 hb_w19
          simp only [fin]
          intro vm_w19_0 hvm_w19_0
          intro vm_w19_1 hvm_w19_1
          simp only [Act.put, List.setIfInBounds_toArray, List.set_cons_succ, List.set_cons_zero]
          have hu_w19 : Up w18 w19 := by (repeat (first | with_reducible exact Up.refl _ | with_reducible refine Up.alloc ?_ _ | with_reducible refine Up.drew ?_ | with_reducible refine Up.drewN ?_ _ | with_reducible refine Up.setCell ?_ (by (try simp) <;> omega) _ | with_reducible assumption | with_reducible refine Up.trans ?_ (by assumption)))
          have hz_w19 := Up.size hb_w19
          try simp at hz_w19
          obtain ⟨bc_w19_0, bf_w19_0⟩ := hu_w19.at_ (q) (by omega)
          have zb_w19_0 : q < w19.heap.size := by omega
          go_wp2_with fail
          go_ret
          exact ⟨rfl, HU18.out.trans hb_w19⟩
      · have HX1 := Lib.hid (show mX = CL.length by omega)
        by_cases c2 : 2 < La.length
        · have HRL := Lib.hid (HRX.out 2 (by omega))
          clear hlc hl2
          go_wp2_with fail
          refine wp_region_mix (NS := [(136, RCs CL), (152, RMs L2)]) [136, 152] rfl (by kernel_rfl) (by kernel_rfl) (by simp) (by intro p hp; simp only [List.mem_cons, List.mem_nil_iff, or_false] at hp; rcases hp with rfl | rfl; all_goals (first | exact rsl_up _ | exact rptr_up _ | exact rms_up _ | exact spanAt_up _ _ _ _ _ | exact rcs_up _ | exact rfb_up _ _)) ?_
          repeat (first
            | (refine mix_skip rfl rfl ?_; simp only [Act.put, List.setIfInBounds_toArray, List.set_cons_succ, List.set_cons_zero])
            | (refine mix_q rfl rfl rfl (by kernel_rfl) rfl rfl rfl ?_
               apply Exists.intro
               refine ⟨fun Wm => ?_, ?_⟩
               · simp only [fin]
                 repeat (rintro (vm : Value) hvm; first | (obtain ⟨gm, om, rfl, hgm, hcm⟩ := hvm) | (obtain ⟨gm, om, cm, rfl, h2m, hxm, hgm, hcm, hdm⟩ := rsl_two hvm) | (obtain ⟨Am, nm, cm, rfl, hnm, hlm, hmm, hrm⟩ := hvm; (try simp only [List.length_cons, List.length_nil, Nat.zero_add, Nat.reduceAdd] at hnm); subst hnm) | (have hvs := hvm; obtain ⟨bm1, bm2, bm3, rfl, hbl, hbz, hbc⟩ := hvm))
                 intro K hK
                 go_wp2_with ((first | (go_at_call 65; (with_reducible refine (HLC.out _ (HS18.out.up (up_upOf _ _))).mono ?_); rintro e w' ⟨Ax, cx, rfl, hRx, hux⟩; have hRy := OwnC.told hRx hc0) | (go_at_call 71; obtain ⟨gx, rfl, hcx⟩ := hrm; (with_reducible refine (eq_cs hcx (HC18.out.up (up_upOf _ _)) hcl6 rfl HX1.out hlm (by omega) hmm q2).mono ?_); rintro e w' ⟨rfl, hux⟩) | (go_at_call 72; (with_reducible refine (HLA.out _ (HS18.out.up (up_upOf _ _))).mono ?_); rintro e w' ⟨Ax, cx, rfl, hRx, hux⟩; have hRy := OwnI.told hRx) | (go_at_call 58; (with_reducible refine (eq_rms hrm (rms_up _ _ _ _ HRL.out (up_upOf _ _)) hl26).mono ?_); rintro e w' ⟨rfl, hux⟩) | (go_at_call 35; (with_reducible refine (ssame_sn).mono ?_); rintro e w' ⟨rfl, rfl⟩)))
                 refine hK _ _ ?_ ?_ ?_
                 · (repeat (first | with_reducible exact Up.refl _ | with_reducible refine Up.alloc ?_ _ | with_reducible refine Up.drew ?_ | with_reducible refine Up.drewN ?_ _ | with_reducible refine Up.setCell ?_ (by (try simp) <;> omega) _ | with_reducible assumption | with_reducible refine Up.trans ?_ (by assumption)))
                 · rfl
                 · exact tmps_at rfl
               simp only [Act.put, List.setIfInBounds_toArray, List.set_cons_succ, List.set_cons_zero])
            | (refine mix_n rfl rfl rfl (by kernel_rfl) rfl rfl rfl ?_ ?_
               · intro Wm
                 simp only [fin]
                 repeat (rintro (vm : Value) hvm; first | (obtain ⟨gm, om, rfl, hgm, hcm⟩ := hvm) | (obtain ⟨gm, om, cm, rfl, h2m, hxm, hgm, hcm, hdm⟩ := rsl_two hvm) | (obtain ⟨Am, nm, cm, rfl, hnm, hlm, hmm, hrm⟩ := hvm; (try simp only [List.length_cons, List.length_nil, Nat.zero_add, Nat.reduceAdd] at hnm); subst hnm) | (have hvs := hvm; obtain ⟨bm1, bm2, bm3, rfl, hbl, hbz, hbc⟩ := hvm))
                 intro K hK
                 go_wp2_with ((first | (go_at_call 65; (with_reducible refine (HLC.out _ (HS18.out.up (up_upOf _ _))).mono ?_); rintro e w' ⟨Ax, cx, rfl, hRx, hux⟩; have hRy := OwnC.told hRx hc0) | (go_at_call 71; obtain ⟨gx, rfl, hcx⟩ := hrm; (with_reducible refine (eq_cs hcx (HC18.out.up (up_upOf _ _)) hcl6 rfl HX1.out hlm (by omega) hmm q2).mono ?_); rintro e w' ⟨rfl, hux⟩) | (go_at_call 72; (with_reducible refine (HLA.out _ (HS18.out.up (up_upOf _ _))).mono ?_); rintro e w' ⟨Ax, cx, rfl, hRx, hux⟩; have hRy := OwnI.told hRx) | (go_at_call 58; (with_reducible refine (eq_rms hrm (rms_up _ _ _ _ HRL.out (up_upOf _ _)) hl26).mono ?_); rintro e w' ⟨rfl, hux⟩) | (go_at_call 35; (with_reducible refine (ssame_sn).mono ?_); rintro e w' ⟨rfl, rfl⟩)))
                 apply hK
                 · (repeat (first | with_reducible exact Up.refl _ | with_reducible refine Up.alloc ?_ _ | with_reducible refine Up.drew ?_ | with_reducible refine Up.drewN ?_ _ | with_reducible refine Up.setCell ?_ (by (try simp) <;> omega) _ | with_reducible assumption | with_reducible refine Up.trans ?_ (by assumption)))
                 · rfl
                 · exact tmps_at rfl
                 · first | exact rsl_lit _ _ _ _ _ _ rfl rfl (by simp [maxLen]) rfl | exact ⟨_, _, rfl, hgm, hcm⟩ | exact ⟨_, _, rfl, hgm, hdm⟩ | assumption
               simp only [Act.put, List.setIfInBounds_toArray, List.set_cons_succ, List.set_cons_zero]))
          refine mix_nil ?_
          intro w19 hb_w19
          simp only [fin]
          intro vm_w19_0 hvm_w19_0
          intro vm_w19_1 hvm_w19_1
          simp only [Act.put, List.setIfInBounds_toArray, List.set_cons_succ, List.set_cons_zero]
          have hu_w19 : Up w18 w19 := by (repeat (first | with_reducible exact Up.refl _ | with_reducible refine Up.alloc ?_ _ | with_reducible refine Up.drew ?_ | with_reducible refine Up.drewN ?_ _ | with_reducible refine Up.setCell ?_ (by (try simp) <;> omega) _ | with_reducible assumption | with_reducible refine Up.trans ?_ (by assumption)))
          have hz_w19 := Up.size hb_w19
          try simp at hz_w19
          obtain ⟨bc_w19_0, bf_w19_0⟩ := hu_w19.at_ (q) (by omega)
          have zb_w19_0 : q < w19.heap.size := by omega
          go_wp2_with fail
          go_ret
          exact ⟨rfl, HU18.out.trans hb_w19⟩
        · have HRL := Lib.hid (HRX.out La.length (by omega))
          clear hlc hl2
          go_wp2_with fail
          refine wp_region_mix (NS := [(136, RCs CL), (152, RMs L2)]) [136, 152] rfl (by kernel_rfl) (by kernel_rfl) (by simp) (by intro p hp; simp only [List.mem_cons, List.mem_nil_iff, or_false] at hp; rcases hp with rfl | rfl; all_goals (first | exact rsl_up _ | exact rptr_up _ | exact rms_up _ | exact spanAt_up _ _ _ _ _ | exact rcs_up _ | exact rfb_up _ _)) ?_
          repeat (first
            | (refine mix_skip rfl rfl ?_; simp only [Act.put, List.setIfInBounds_toArray, List.set_cons_succ, List.set_cons_zero])
            | (refine mix_q rfl rfl rfl (by kernel_rfl) rfl rfl rfl ?_
               apply Exists.intro
               refine ⟨fun Wm => ?_, ?_⟩
               · simp only [fin]
                 repeat (rintro (vm : Value) hvm; first | (obtain ⟨gm, om, rfl, hgm, hcm⟩ := hvm) | (obtain ⟨gm, om, cm, rfl, h2m, hxm, hgm, hcm, hdm⟩ := rsl_two hvm) | (obtain ⟨Am, nm, cm, rfl, hnm, hlm, hmm, hrm⟩ := hvm; (try simp only [List.length_cons, List.length_nil, Nat.zero_add, Nat.reduceAdd] at hnm); subst hnm) | (have hvs := hvm; obtain ⟨bm1, bm2, bm3, rfl, hbl, hbz, hbc⟩ := hvm))
                 intro K hK
                 go_wp2_with ((first | (go_at_call 65; (with_reducible refine (HLC.out _ (HS18.out.up (up_upOf _ _))).mono ?_); rintro e w' ⟨Ax, cx, rfl, hRx, hux⟩; have hRy := OwnC.told hRx hc0) | (go_at_call 71; obtain ⟨gx, rfl, hcx⟩ := hrm; (with_reducible refine (eq_cs hcx (HC18.out.up (up_upOf _ _)) hcl6 rfl HX1.out hlm (by omega) hmm q2).mono ?_); rintro e w' ⟨rfl, hux⟩) | (go_at_call 72; (with_reducible refine (HLA.out _ (HS18.out.up (up_upOf _ _))).mono ?_); rintro e w' ⟨Ax, cx, rfl, hRx, hux⟩; have hRy := OwnI.told hRx) | (go_at_call 58; (with_reducible refine (eq_rms hrm (rms_up _ _ _ _ HRL.out (up_upOf _ _)) hl26).mono ?_); rintro e w' ⟨rfl, hux⟩) | (go_at_call 35; (with_reducible refine (ssame_sn).mono ?_); rintro e w' ⟨rfl, rfl⟩)))
                 refine hK _ _ ?_ ?_ ?_
                 · (repeat (first | with_reducible exact Up.refl _ | with_reducible refine Up.alloc ?_ _ | with_reducible refine Up.drew ?_ | with_reducible refine Up.drewN ?_ _ | with_reducible refine Up.setCell ?_ (by (try simp) <;> omega) _ | with_reducible assumption | with_reducible refine Up.trans ?_ (by assumption)))
                 · rfl
                 · exact tmps_at rfl
               simp only [Act.put, List.setIfInBounds_toArray, List.set_cons_succ, List.set_cons_zero])
            | (refine mix_n rfl rfl rfl (by kernel_rfl) rfl rfl rfl ?_ ?_
               · intro Wm
                 simp only [fin]
                 repeat (rintro (vm : Value) hvm; first | (obtain ⟨gm, om, rfl, hgm, hcm⟩ := hvm) | (obtain ⟨gm, om, cm, rfl, h2m, hxm, hgm, hcm, hdm⟩ := rsl_two hvm) | (obtain ⟨Am, nm, cm, rfl, hnm, hlm, hmm, hrm⟩ := hvm; (try simp only [List.length_cons, List.length_nil, Nat.zero_add, Nat.reduceAdd] at hnm); subst hnm) | (have hvs := hvm; obtain ⟨bm1, bm2, bm3, rfl, hbl, hbz, hbc⟩ := hvm))
                 intro K hK
                 go_wp2_with ((first | (go_at_call 65; (with_reducible refine (HLC.out _ (HS18.out.up (up_upOf _ _))).mono ?_); rintro e w' ⟨Ax, cx, rfl, hRx, hux⟩; have hRy := OwnC.told hRx hc0) | (go_at_call 71; obtain ⟨gx, rfl, hcx⟩ := hrm; (with_reducible refine (eq_cs hcx (HC18.out.up (up_upOf _ _)) hcl6 rfl HX1.out hlm (by omega) hmm q2).mono ?_); rintro e w' ⟨rfl, hux⟩) | (go_at_call 72; (with_reducible refine (HLA.out _ (HS18.out.up (up_upOf _ _))).mono ?_); rintro e w' ⟨Ax, cx, rfl, hRx, hux⟩; have hRy := OwnI.told hRx) | (go_at_call 58; (with_reducible refine (eq_rms hrm (rms_up _ _ _ _ HRL.out (up_upOf _ _)) hl26).mono ?_); rintro e w' ⟨rfl, hux⟩) | (go_at_call 35; (with_reducible refine (ssame_sn).mono ?_); rintro e w' ⟨rfl, rfl⟩)))
                 apply hK
                 · (repeat (first | with_reducible exact Up.refl _ | with_reducible refine Up.alloc ?_ _ | with_reducible refine Up.drew ?_ | with_reducible refine Up.drewN ?_ _ | with_reducible refine Up.setCell ?_ (by (try simp) <;> omega) _ | with_reducible assumption | with_reducible refine Up.trans ?_ (by assumption)))
                 · rfl
                 · exact tmps_at rfl
                 · first | exact rsl_lit _ _ _ _ _ _ rfl rfl (by simp [maxLen]) rfl | exact ⟨_, _, rfl, hgm, hcm⟩ | exact ⟨_, _, rfl, hgm, hdm⟩ | assumption
               simp only [Act.put, List.setIfInBounds_toArray, List.set_cons_succ, List.set_cons_zero]))
          refine mix_nil ?_
          intro w19 hb_w19
          simp only [fin]
          intro vm_w19_0 hvm_w19_0
          intro vm_w19_1 hvm_w19_1
          simp only [Act.put, List.setIfInBounds_toArray, List.set_cons_succ, List.set_cons_zero]
          have hu_w19 : Up w18 w19 := by (repeat (first | with_reducible exact Up.refl _ | with_reducible refine Up.alloc ?_ _ | with_reducible refine Up.drew ?_ | with_reducible refine Up.drewN ?_ _ | with_reducible refine Up.setCell ?_ (by (try simp) <;> omega) _ | with_reducible assumption | with_reducible refine Up.trans ?_ (by assumption)))
          have hz_w19 := Up.size hb_w19
          try simp at hz_w19
          obtain ⟨bc_w19_0, bf_w19_0⟩ := hu_w19.at_ (q) (by omega)
          have zb_w19_0 : q < w19.heap.size := by omega
          go_wp2_with fail
          go_ret
          exact ⟨rfl, HU18.out.trans hb_w19⟩
theorem law_told (m : Int) (A : Option Addr) (n cap : Nat) (l : List ActR) (st : Int) (w : World) (m0 : -9223372036854775808 ≤ m) (m1 : m ≤ 9223372036854775807) (hl : l.length = n) (hn : n ≤ cap) (hc : cap ≤ maxLen) (hok : ∀ x ∈ l, x.Ok w w.heap.size) (hr : Reads w w.heap.size 11 A n (l.flatMap ActR.enc)) (s0 : 0 ≤ st) (s1 : st ≤ 65535) :
    Calls Try.prog 9 #[.int .i64 m, .slice A n cap, .int .u16 st] w fun e w' => e = .returned (.bool true) ∧ Up w w' := by
  by_cases hm : 2 ≤ m ∧ m ≤ 5
  · exact law_told_good m A n cap l st w hm.1 hm.2 hl hn hc hok hr s0 s1
  · exact law_told_bad m A n cap st w hm
end Go.Proofs.Ytjokcfenncogkaa
