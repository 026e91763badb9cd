/-
  The walk of SpaceRound: whatever the model, the acts, the number, the times and the cell, it returns true. No condition but where the acts lie.
-/
import Derived.Test.YtjokcfenncogkaaDo12
import Derived.Test.YtjokcfenncogkaaSame12b
import Derived.Test.YtjokcfenncogkaaLay0
namespace Go.Proofs.Ytjokcfenncogkaa
open Go.RowKit
set_option linter.unusedVariables false
set_option linter.unusedSimpArgs false

theorem fld0 (a b : Int) (w : World) : (Instr.field 38 (.agg #[.int .i64 a, .int .i64 b]) 0).run Try.prog w = .ok (.int .i64 a) w := by kernel_rfl
theorem fld1 (a b : Int) (w : World) : (Instr.field 38 (.agg #[.int .i64 a, .int .i64 b]) 1).run Try.prog w = .ok (.int .i64 b) w := by kernel_rfl
set_option maxRecDepth 100000 in
set_option maxHeartbeats 1600000 in
theorem awake12 (w : World) : Calls Try.prog 21 #[] w fun e w' => e = .returned (.bool true) ∧ Up w w' := by
  have f0 := fld0
  have f1 := fld1
  go_enter Try.func21, Try.ntmps21
  go_wp2_with fail
  refine (snew_is (m := 5) (by omega) (by omega)).mono ?_
  rintro e w1 ⟨p, g, rfl, hp, hg, hs1, hu1⟩
  have HS1 := Lib.hid hs1
  have HU1 := Lib.hid hu1
  have HZ := Lib.hid (show ∀ W, SAt W p g (newS 5) → Calls Try.prog 25 #[.pointer (some ⟨p, 0, none⟩)] W fun e w' => e = .returned (.agg #[.int .i64 24, .int .i64 80]) ∧ Up W w' from fun W h => ssize_is h)
  clear hs1 hu1
  go_wp2_with fail
  refine (HZ.out _ HS1.out).mono ?_
  rintro e w2 ⟨rfl, hu2⟩
  go_wp2_with fail
  refine (HZ.out _ (HS1.out.up hu2)).mono ?_
  rintro e w3 ⟨rfl, hu3⟩
  go_wp2_with fail
  refine (sclear_is true (HS1.out.up (hu2.trans hu3)) (newS_ok (by omega) (by omega))).mono ?_
  rintro e w4 ⟨rfl, g', hg', hs4, hk4⟩
  have HS4 := Lib.hid (show SAt w4 p g' (cleared 5 true) from hs4)
  have HU4 := Lib.hid ((HU1.out.trans (hu2.trans hu3)).keep hk4 (fun i hi => by omega))
  have HZ2 := Lib.hid (show ∀ W, SAt W p g' (cleared 5 true) → Calls Try.prog 25 #[.pointer (some ⟨p, 0, none⟩)] W fun e w' => e = .returned (.agg #[.int .i64 27, .int .i64 132]) ∧ Up W w' from fun W h => ssize_is h)
  clear hs4 hk4
  go_wp2_with fail
  refine (HZ2.out _ HS4.out).mono ?_
  rintro e w5 ⟨rfl, hu5⟩
  go_wp2_with fail
  refine (HZ2.out _ (HS4.out.up hu5)).mono ?_
  rintro e w6 ⟨rfl, hu6⟩
  go_wp2_with fail
  go_ret
  exact ⟨rfl, HU4.out.trans (hu5.trans hu6)⟩
theorem wrap_far {X : Spc} (ok : X.Ok) (z t : Int) : X.wrap (z + t * (X.r * X.c)) = X.wrap z := by
  unfold Spc.wrap
  rw [Int.add_mul_emod_self_right]
theorem acts_min {X : Spc} {l : List Act12} {n m : Nat} (hl : l.length = n) : acts X l (min n m) = acts X l m := by
  unfold acts
  rcases Nat.le_total n m with h | h
  · rw [Nat.min_eq_left h, List.take_of_length_le (by omega), List.take_of_length_le (by omega)]
  · rw [Nat.min_eq_right h]
theorem set_at {X : Spc} (ok : X.Ok) (n : Int) (c : Cl) : (X.set n c).at_ n = c.fit := by
  have hw := (ok.wrap n).2
  unfold Spc.set Spc.at_
  have : (⟨X.model, X.alt, X.r, X.c, X.L.set (X.wrap n) c.fit, X.cur⟩ : Spc).wrap n = X.wrap n := rfl
  simp only [this]
  rw [List.getD, List.getElem?_set_self hw]; rfl
theorem fit_put {X : Spc} (ok : X.Ok) (n : Int) (c : Cl) : (X.set n c).put n c.ch = X.set n c := by
  have ha := set_at ok n c
  unfold Spc.put
  rw [ha]
  have hp : putC c.fit c.ch = c.fit := by
    unfold putC Cl.fit
    by_cases e : c.at_ <;> simp [e]
  rw [hp]
  unfold Spc.set
  have e : (⟨X.model, X.alt, X.r, X.c, X.L.set (X.wrap n) c.fit, X.cur⟩ : Spc).wrap n = X.wrap n := rfl
  simp only [e, List.set_set]
set_option maxRecDepth 100000 in
set_option maxHeartbeats 12800000 in
theorem law_round (m : Int) (A : Option Addr) (n cap : Nat) (l : List ActR) (nn tt : Int) (c : Cl) (w : World) (m0 : 0 ≤ m) (m1 : m ≤ 255) (hl : l.length = n) (hn : n ≤ cap) (hc : cap ≤ maxLen) (hok : ∀ x ∈ l, x.Ok w w.heap.size) (hr : Reads w w.heap.size 11 A n (l.flatMap ActR.enc))
    (n0 : -9223372036854775808 ≤ nn) (n1 : nn ≤ 9223372036854775807) (t0 : -128 ≤ tt) (t1 : tt ≤ 127) (hcw : c.Wf) :
    Calls Try.prog 3 #[.int .u8 m, .slice A n cap, .int .i64 nn, .int .i8 tt, c.val] w fun e w' => e = .returned (.bool true) ∧ Up w w' := by
  have HR := Lib.hid hr
  have HOK := Lib.hid hok
  have HL := Lib.hid hl
  have HCW := Lib.hid hcw
  have hcp : (cap : Int) ≤ 9223372036854775807 := by simp [maxLen] at hc; omega
  have hm2 : 2 ≤ 2 + m % 4 := by omega
  have hm5 : 2 + m % 4 ≤ 5 := by omega
  have hmd : 0 ≤ m % 4 ∧ m % 4 < 4 := by omega
  have HOX := Lib.hid (newS_ok hm2 hm5)
  have HWF := Lib.hid (show ∀ a ∈ plains l, a.Wf from fun a ha => by simp only [plains, List.mem_map] at ha; obtain ⟨x, hx, rfl⟩ := ha; exact (hok x hx).wf)
  have hd0 := hmd.1
  have hd1 := hmd.2
  obtain ⟨cch, cat, cfa, chi, cco, cse⟩ := c
  unfold Cl.val
  simp only
  clear hr hok hl hmd hcw
  go_enter Try.func3, Try.ntmps3
  go_wp2_with fail
  refine (awake12 _).mono ?_
  rintro e w0 ⟨rfl, hb_w0⟩
  have hu_w0 : Up w w0 := by (repeat (first | with_reducible exact Up.refl _ | with_reducible refine Up.alloc ?_ _ | with_reducible refine Up.drew ?_ | with_reducible refine Up.drewN ?_ _ | with_reducible refine Up.setCell ?_ (by (try simp) <;> omega) _ | with_reducible assumption | with_reducible refine Up.trans ?_ (by assumption)))
  have hz_w0 := Up.size hb_w0
  try simp at hz_w0
  obtain ⟨bd_w0_0, be_w0_0⟩ := hb_w0.at_ (w.heap.size) (by (try simp) <;> omega)
  have zb_w0_0 : w.heap.size < w0.heap.size := by omega
  go_wp2_with fail
  generalize hmm : m % 4 = mm at *
  clear hmm
  refine (snew_is (m := 2 + mm) hm2 hm5).mono ?_
  rintro e w1 ⟨p, g, rfl, hp, hg, hs1, hu1⟩
  have HS1 := Lib.hid hs1
  have HU1 := Lib.hid hu1
  have zp1 := hs1.lt
  have zg1 := hs1.cells.2.1
  have z1 := hu1.size
  obtain ⟨bx1, by1⟩ := hu1.at_ w.heap.size (by omega)
  clear hs1 hu1
  go_wp2_with fail
  refine (rnew_is (m := 2 + mm) hm2 hm5).mono ?_
  rintro e w2 ⟨q, h, rfl, hq, hh, hr2, hu2⟩
  have HP2 := Lib.hid (show Pair (w.heap.size + 1) w2 p q (newS (2 + mm)) from Pair.of (HS1.out.up hu2) hr2 (by omega) (by omega))
  have HU2 := Lib.hid (show Up w w2 from hu_w0.trans (HU1.out.trans hu2))
  have z2 := hu2.size
  have c0 : ∀ o, w2.cell? ⟨w.heap.size, o, none⟩ = (w.alloc (.cells #[.int .u8 cch, .bool cat, .int .u8 cfa, .int .u8 chi, .int .u8 cco, .int .u8 cse] 25)).cell? ⟨w.heap.size, o, none⟩ := fun o => ((hu2.at_ w.heap.size (by omega)).1 o).trans ((bx1 o).trans (bd_w0_0 o))
  have HX0 := Lib.hid (show w2.cell? ⟨w.heap.size, 0, none⟩ = some (.int .u8 cch) ∧ w2.cell? ⟨w.heap.size, 1, none⟩ = some (.bool cat) ∧ w2.cell? ⟨w.heap.size, 2, none⟩ = some (.int .u8 cfa) ∧ w2.cell? ⟨w.heap.size, 3, none⟩ = some (.int .u8 chi) ∧ w2.cell? ⟨w.heap.size, 4, none⟩ = some (.int .u8 cco) ∧ w2.cell? ⟨w.heap.size, 5, none⟩ = some (.int .u8 cse) from
    ⟨(c0 0).trans (by simp [go_sem]), (c0 1).trans (by simp [go_sem]), (c0 2).trans (by simp [go_sem]), (c0 3).trans (by simp [go_sem]), (c0 4).trans (by simp [go_sem]), (c0 5).trans (by simp [go_sem])⟩)
  have hz2w : w.heap.size < w2.heap.size := by omega
  clear hr2 hu2 c0 bx1 by1 bd_w0_0 be_w0_0
  go_wp2_with fail
  go_loopw [34] (fun i wr => ∃ j : Nat, j ≤ n ∧ i = .int .i64 (j : Int) ∧ Pair (w.heap.size + 1) wr p q (acts (newS (2 + mm)) (plains l) (min j 20)) ∧ Below (w.heap.size + 1) w2 wr) (fun i _ => n - (intOf i).toNat)
  case atStart => exact ⟨0, by omega, rfl, by simpa [acts] using HP2.out, Below.refl _ _⟩
  case round =>
    obtain ⟨j, hj, rfl, hrj, huj⟩ := hrel
    have HRJ := Lib.hid hrj
    have HUJ := Lib.hid huj
    have zz := huj.size
    have HUW := Lib.hid (show Up w wr from HU2.out.past (huj.mono (by omega)))
    have HOJ := Lib.hid (acts_ok HOX.out HWF.out (min j 20))
    clear hrj
    by_cases hlt : j < n
    · obtain ⟨x, hx⟩ : ∃ x, l[j]? = some x := ⟨_, List.getElem?_eq_getElem (by have := HL.out; omega)⟩
      have hxok := (HOK.out x (List.mem_of_getElem? hx)).keep HUW.out
      have hrd := HR.out.below HUW.out
      obtain ⟨b, off, rfl, hb⟩ := hrd.form (by omega)
      have hrow := row_at (k := 11) (enc := ActR.enc) (fun _ => rfl) hrd hx (by omega)
      have x0 := hrow 0 _ rfl
      have x1 := hrow 1 _ rfl
      have x2 := hrow 2 _ rfl
      have x3 := hrow 3 _ rfl
      have x4 := hrow 4 _ rfl
      have x5 := hrow 5 _ rfl
      have x6 := hrow 6 _ rfl
      have x7 := hrow 7 _ rfl
      have x8 := hrow 8 _ rfl
      have x9 := hrow 9 _ rfl
      have x10 := hrow 10 _ rfl
      rw [Nat.add_zero] at x0
      have zb : b < wr.heap.size := by omega
      have HXK := Lib.hid hxok
      have hpl : (plains l)[j]? = some x.a := by simp [plains, hx]
      have HAS := Lib.hid (acts_succ (newS (2 + mm)) (plains l) j)
      rw [hpl] at HAS
      simp only at HAS
      have hjn : (j : Int) < (n : Int) := by omega
      clear hrow hrd hxok hx hpl huj
      by_cases h30 : j < 20
      · have h30' : (j : Int) < 20 := by omega
        have hmin : min j 20 = j := by omega
        have HMIN := Lib.hid (show min (j + 1) 20 = j + 1 by omega)
        rw [hmin] at HRJ HOJ
        clear hmin
        go_wp2_with fail
        refine (do12_is (B := w.heap.size + 1) x.a x.A x.cap HXK.out.wf (HRJ.out.up (by (repeat (first | with_reducible exact Up.refl _ | with_reducible refine Up.alloc ?_ _ | with_reducible refine Up.drew ?_ | with_reducible refine Up.drewN ?_ _ | with_reducible refine Up.setCell ?_ (by (try simp) <;> omega) _ | with_reducible assumption | with_reducible refine Up.trans ?_ (by assumption))))) HOJ.out ((HXK.out.rd.alloc (by omega) _).more (by omega)) (by simp; omega) HXK.out.le HXK.out.mx).mono ?_
        rintro e w3 ⟨rfl, hr3, hb3⟩
        have HR3 := Lib.hid hr3
        have HB3 := Lib.hid (show Below (w.heap.size + 1) w2 w3 from HUJ.out.trans (((Below.refl _ wr).alloc (by omega) _).trans hb3))
        clear hr3 hb3
        go_wp2
        go_roundw
        case rel => exact ⟨j + 1, by omega, by go_num, by rw [HMIN.out, HAS.out]; exact HR3.out, HB3.out⟩
        case measure => simp [intOf]; omega
      · have h30' : ¬ (j : Int) < 20 := by omega
        have hmin : min j 20 = min (j + 1) 20 := by omega
        rw [hmin] at HRJ
        clear hmin
        go_wp2
        go_roundw
        case rel => exact ⟨j + 1, by omega, by go_num, HRJ.out.up (by (repeat (first | with_reducible exact Up.refl _ | with_reducible refine Up.alloc ?_ _ | with_reducible refine Up.drew ?_ | with_reducible refine Up.drewN ?_ _ | with_reducible refine Up.setCell ?_ (by (try simp) <;> omega) _ | with_reducible assumption | with_reducible refine Up.trans ?_ (by assumption)))), HUJ.out.trans ((Below.refl _ wr).alloc (by omega) _)⟩
        case measure => simp [intOf]; omega
    · obtain rfl : j = n := by omega
      rw [acts_min (by simp [plains, HL.out])] at HRJ
      have HOX2 := Lib.hid (acts_ok HOX.out HWF.out 20)
      obtain ⟨X, hX⟩ : ∃ X, acts (newS (2 + mm)) (plains l) 20 = X := ⟨_, rfl⟩
      rw [hX] at HRJ HOX2
      clear hX HOJ HL HOX HWF
      have hx0 := fun o => huj.cell (p := ⟨w.heap.size, o, none⟩) (Nat.lt_succ_self w.heap.size)
      have b0 := (hx0 0).trans HX0.out.1
      have b1 := (hx0 1).trans HX0.out.2.1
      have b2 := (hx0 2).trans HX0.out.2.2.1
      have b3 := (hx0 3).trans HX0.out.2.2.2.1
      have b4 := (hx0 4).trans HX0.out.2.2.2.2.1
      have b5 := (hx0 5).trans HX0.out.2.2.2.2.2
      obtain ⟨g', h', hs, hr, hne, hbb⟩ := HRJ.out
      have HS := Lib.hid hs
      have HRR := Lib.hid hr
      have HNE := Lib.hid (show (p ≠ q ∧ p ≠ h' ∧ g' ≠ q ∧ g' ≠ h') ∧ (w.heap.size + 1 ≤ p ∧ w.heap.size + 1 ≤ g' ∧ w.heap.size + 1 ≤ q ∧ w.heap.size + 1 ≤ h') from ⟨hne, hbb⟩)
      clear huj hx0 hs hr hne hbb HRJ
      obtain ⟨z, hz⟩ : ∃ z, nn.tmod 1099511627776 = z := ⟨_, rfl⟩
      have hzb : -1099511627776 < z ∧ z < 1099511627776 := by rw [← hz]; have := Int.tmod_lt_of_pos nn (show (0 : Int) < 1099511627776 by omega); have h2 := Int.lt_tmod_of_pos nn (show (0 : Int) < 1099511627776 by omega); omega
      have hzb1 := hzb.1
      have hzb2 := hzb.2
      have hvf := valid_facts HOX2.out.valid
      have HV := Lib.hid HOX2.out.valid
      obtain ⟨M, hM⟩ : ∃ M, X.r * X.c = M := ⟨_, rfl⟩
      have hMb1 : 1 ≤ M := by rw [← hM]; exact hvf.2.2.2.2.1
      have hMb2 : M ≤ 3564 := by rw [← hM]; exact hvf.2.2.2.2.2
      have htm := mul_bd (a := tt + 128) (c := M) (k := 255) (m := 3564) (by omega) (by omega) (by omega) (by omega)
      rw [Int.add_mul] at htm
      have htm1 : -456192 ≤ tt * M := by omega
      have htm2 : tt * M ≤ 908820 := by omega
      have HWF := Lib.hid (show X.wrap (z + tt * M) = X.wrap z by rw [← hM]; exact wrap_far HOX2.out z tt)
      have HCE := Lib.hid (fun W => (cells_good X.r X.c W HV.out).mono fun e w' h => (show e = .returned (.int .i64 M) ∧ Up _ w' by rw [← hM]; exact h))
      clear htm hvf hM hzb
      have HAF := Lib.hid (show X.at_ (z + tt * M) = X.at_ z by unfold Spc.at_; rw [HWF.out])
      have HA1 := Lib.hid (fun W (h : SAt W p g' X) => sat_is z h HOX2.out)
      have HA2 := Lib.hid (fun W (h : SAt W p g' X) => by have := sat_is (z + tt * M) h HOX2.out; rw [HAF.out] at this; exact this)
      obtain ⟨d, hd⟩ : ∃ d, X.at_ z = d := ⟨_, rfl⟩
      rw [hd] at HA1 HA2
      have ea : ∀ W : World, (Op.equalIn 10000 25 (.agg #[.int .u8 d.ch, .bool d.at_, .int .u8 d.fa, .int .u8 d.hi, .int .u8 d.co, .int .u8 d.se]) (.agg #[.int .u8 d.ch, .bool d.at_, .int .u8 d.fa, .int .u8 d.hi, .int .u8 d.co, .int .u8 d.se])).run Try.prog W = .ok true W := fun W => eqC (c := d) (d := d) (by simp) W
      clear hd
      unfold Cl.val at HA1 HA2
      go_wp2_with fail
      refine (ssize_is HS.out).mono ?_
      rintro e w5 ⟨rfl, hu5⟩
      go_wp2_with fail
      refine (HCE.out _).mono ?_
      rintro e w6 ⟨rfl, hu6⟩
      go_wp2_with fail
      refine (HA1.out _ (HS.out.up (hu5.trans hu6))).mono ?_
      rintro e w7 ⟨rfl, hu7⟩
      go_wp2_with fail
      refine (HA2.out _ (HS.out.up ((hu5.trans hu6).trans hu7))).mono ?_
      rintro e w8 ⟨rfl, hu8⟩
      have hu58 := ((hu5.trans hu6).trans hu7).trans hu8
      have z8 := hu58.size
      have zbx : w.heap.size < w8.heap.size := by omega
      have d0 := ((hu58.at_ w.heap.size (by omega)).1 0).trans b0
      have d1 := ((hu58.at_ w.heap.size (by omega)).1 1).trans b1
      have d2 := ((hu58.at_ w.heap.size (by omega)).1 2).trans b2
      have d3 := ((hu58.at_ w.heap.size (by omega)).1 3).trans b3
      have d4 := ((hu58.at_ w.heap.size (by omega)).1 4).trans b4
      have d5 := ((hu58.at_ w.heap.size (by omega)).1 5).trans b5
      have HS8 := Lib.hid (HS.out.up hu58)
      have HR8 := Lib.hid (HRR.out.up hu58)
      have HU8 := Lib.hid (HUW.out.trans hu58)
      clear b0 b1 b2 b3 b4 b5 hu5 hu6 hu7 hu8 hu58 ea
      go_wp2_with fail
      refine (sset_is (z + tt * M) ⟨cch, cat, cfa, chi, cco, cse⟩ HCW.out HS8.out HOX2.out).mono ?_
      rintro e w9 ⟨rfl, hs9, hk9⟩
      have hx9 := (hk9.at_ w.heap.size (by omega) (fun e => by have := HNE.out; (try simp only [two] at e) <;> omega)).1
      have e0 := (hx9 0).trans d0
      have e1 := (hx9 1).trans d1
      have e2 := (hx9 2).trans d2
      have e3 := (hx9 3).trans d3
      have e4 := (hx9 4).trans d4
      have e5 := (hx9 5).trans d5
      have HO9 := Lib.hid (HOX2.out.set (z + tt * M) HCW.out)
      have HS9 := Lib.hid hs9
      have HR9 := Lib.hid (HR8.out.held hk9 (fun e => by have := HNE.out; (try simp only [two] at e) <;> omega) (fun e => by have := HNE.out; (try simp only [two] at e) <;> omega))
      have HU9 := Lib.hid (HU8.out.keep hk9 (fun k hk => by have := HNE.out; (try simp only [two] at hk) <;> omega))
      have z9 := hk9.size
      clear hs9 hk9 hx9 d0 d1 d2 d3 d4 d5
      go_wp2_with fail
      refine (splace_is (z + tt * M) HS9.out HO9.out).mono ?_
      rintro e w10 ⟨rfl, hs10, hk10⟩
      have hx10 := (hk10.at_ w.heap.size (by omega) (fun e => by have := HNE.out; (try simp only [two] at e) <;> omega)).1
      have f0 := (hx10 0).trans e0
      have f1 := (hx10 1).trans e1
      have f2 := (hx10 2).trans e2
      have f3 := (hx10 3).trans e3
      have f4 := (hx10 4).trans e4
      have f5 := (hx10 5).trans e5
      have HO10 := Lib.hid (HO9.out.place (z + tt * M))
      have HS10 := Lib.hid hs10
      have HR10 := Lib.hid (HR9.out.held hk10 (fun e => by have := HNE.out; (try simp only [two] at e) <;> omega) (fun e => by have := HNE.out; (try simp only [two] at e) <;> omega))
      have HU10 := Lib.hid (HU9.out.keep hk10 (fun k hk => by have := HNE.out; (try simp only [two] at hk) <;> omega))
      have z10 := hk10.size
      clear hs10 hk10 hx10 e0 e1 e2 e3 e4 e5
      have HPT := Lib.hid (show ((X.set (z + tt * M) ⟨cch, cat, cfa, chi, cco, cse⟩).place (z + tt * M)).put (z + tt * M) cch = (X.set (z + tt * M) ⟨cch, cat, cfa, chi, cco, cse⟩).place (z + tt * M) from congrArg (fun Y : Spc => Y.place (z + tt * M)) (fit_put HOX2.out (z + tt * M) ⟨cch, cat, cfa, chi, cco, cse⟩))
      have HAT := Lib.hid (show ((X.set (z + tt * M) ⟨cch, cat, cfa, chi, cco, cse⟩).place (z + tt * M)).at_ z = (⟨cch, cat, cfa, chi, cco, cse⟩ : Cl).fit by
        have h1 := set_at HOX2.out (z + tt * M) ⟨cch, cat, cfa, chi, cco, cse⟩
        unfold Spc.at_ at h1 ⊢
        rw [← h1]
        congr 1
        exact HWF.out.symm)
      have HCU := Lib.hid (show ((X.set (z + tt * M) ⟨cch, cat, cfa, chi, cco, cse⟩).place (z + tt * M)).cur = (X.wrap z : Int) by rw [← HWF.out]; rfl)
      obtain ⟨Y, hY⟩ : ∃ Y, (X.set (z + tt * M) ⟨cch, cat, cfa, chi, cco, cse⟩).place (z + tt * M) = Y := ⟨_, rfl⟩
      rw [hY] at HS10 HO10 HPT HAT HCU
      clear hY HS9 HO9 HS8 HR8 HR9
      go_wp2_with fail
      refine (scopy_is HS10.out HO10.out).mono ?_
      rintro e w11 ⟨p', g2, rfl, hp', hg2, ht11, hu11⟩
      have HT11 := Lib.hid ht11
      have HU11 := Lib.hid hu11
      have z11 := hu11.size
      have hx11 := (hu11.at_ w.heap.size (by omega)).1
      have i0 := (hx11 0).trans f0
      have i1 := (hx11 1).trans f1
      have i2 := (hx11 2).trans f2
      have i3 := (hx11 3).trans f3
      have i4 := (hx11 4).trans f4
      have i5 := (hx11 5).trans f5
      have zb11 : w.heap.size < w11.heap.size := by omega
      clear ht11 hu11 hx11 f0 f1 f2 f3 f4 f5
      go_wp2_with fail
      refine (sput_is (z + tt * M) cch HT11.out HO10.out).mono ?_
      rintro e w12 ⟨rfl, ht12, hk12⟩
      rw [HPT.out] at ht12
      have HT12 := Lib.hid ht12
      have hu12 : Up w10 w12 := HU11.out.keep hk12 (fun k hk => by (try simp only [two] at hk) <;> omega)
      have HS12 := Lib.hid (HS10.out.up hu12)
      have HR12 := Lib.hid (HR10.out.up hu12)
      have HU12 := Lib.hid (HU10.out.trans hu12)
      have hx12 := (hk12.at_ w.heap.size (by omega) (fun e => by (try simp only [two] at e) <;> omega)).1
      have j0 := (hx12 0).trans i0
      have j1 := (hx12 1).trans i1
      have j2 := (hx12 2).trans i2
      have j3 := (hx12 3).trans i3
      have j4 := (hx12 4).trans i4
      have j5 := (hx12 5).trans i5
      have zb12 : w.heap.size < w12.heap.size := by have := hu12.size; omega
      clear ht12 hk12 hu12 hx12 i0 i1 i2 i3 i4 i5
      have HA3 := Lib.hid (fun W (h : SAt W p g' Y) => by have := sat_is z h HO10.out; rw [HAT.out] at this; exact this)
      have HF3 := Lib.hid (fun W => fit_is ⟨cch, cat, cfa, chi, cco, cse⟩ HCW.out W)
      obtain ⟨fc, hfc⟩ : ∃ fc, (⟨cch, cat, cfa, chi, cco, cse⟩ : Cl).fit = fc := ⟨_, rfl⟩
      rw [hfc] at HA3 HF3
      have ea : ∀ W : World, (Op.equalIn 10000 25 (.agg #[.int .u8 fc.ch, .bool fc.at_, .int .u8 fc.fa, .int .u8 fc.hi, .int .u8 fc.co, .int .u8 fc.se]) (.agg #[.int .u8 fc.ch, .bool fc.at_, .int .u8 fc.fa, .int .u8 fc.hi, .int .u8 fc.co, .int .u8 fc.se])).run Try.prog W = .ok true W := fun W => eqC (c := fc) (d := fc) (by simp) W
      clear hfc HAT HPT
      unfold Cl.val at HA3 HF3
      simp only at HF3
      have HC3 := Lib.hid (fun W (h : SAt W p g' Y) => by have := scur_is h; rw [HCU.out] at this; exact this)
      go_wp2_with fail
      refine wp_region_mix (NS := []) [] rfl (by kernel_rfl) (by kernel_rfl) (by simp) (by simp) ?_
      repeat (first
        | (refine mix_skip rfl rfl ?_; simp only [Act.put, List.setIfInBounds_toArray, List.set_cons_succ, List.set_cons_zero])
        | (refine mix_q rfl rfl rfl (by kernel_rfl) rfl rfl rfl ?_
           apply Exists.intro
           refine ⟨fun Wm => ?_, ?_⟩
           · simp only [fin]
             skip
             intro K hK
             go_wp2_with ((first | (go_at_call 27; (with_reducible refine (HA3.out _ (HS12.out.up (up_upOf _ _))).mono ?_); rintro e w' ⟨rfl, hux⟩) | (go_at_call 32; (with_reducible refine (HF3.out _).mono ?_); rintro e w' ⟨rfl, hux⟩) | (go_at_call 33; (with_reducible refine (HC3.out _ (HS12.out.up (up_upOf _ _))).mono ?_); rintro e w' ⟨rfl, rfl⟩) | (go_at_call 34; (with_reducible refine (rwrap_is z (HR12.out.up (up_upOf _ _)) HOX2.out).mono ?_); rintro e w' ⟨rfl, hux⟩) | (go_at_call 35; (with_reducible refine (ssame_is (HT12.out.up (up_upOf _ _)) (HS12.out.up (up_upOf _ _)) HO10.out).mono ?_); rintro e w' ⟨rfl, hux⟩)))
             refine hK _ _ ?_ ?_ ?_
             · (repeat (first | with_reducible exact Up.refl _ | with_reducible refine Up.alloc ?_ _ | with_reducible refine Up.drew ?_ | with_reducible refine Up.drewN ?_ _ | with_reducible refine Up.setCell ?_ (by (try simp) <;> omega) _ | with_reducible assumption | with_reducible refine Up.trans ?_ (by assumption)))
             · rfl
             · exact tmps_at rfl
           simp only [Act.put, List.setIfInBounds_toArray, List.set_cons_succ, List.set_cons_zero]))
      refine mix_nil ?_
      intro w13 hb_w13
      simp only [fin]
      have hu_w13 : Up w12 w13 := by (repeat (first | with_reducible exact Up.refl _ | with_reducible refine Up.alloc ?_ _ | with_reducible refine Up.drew ?_ | with_reducible refine Up.drewN ?_ _ | with_reducible refine Up.setCell ?_ (by (try simp) <;> omega) _ | with_reducible assumption | with_reducible refine Up.trans ?_ (by assumption)))
      have hz_w13 := Up.size hb_w13
      try simp at hz_w13
      obtain ⟨bc_w13_0, bf_w13_0⟩ := hu_w13.at_ (w.heap.size) (by omega)
      have zb_w13_0 : w.heap.size < w13.heap.size := by omega
      go_wp2_with fail
      go_ret
      exact ⟨rfl, HU12.out.trans hb_w13⟩
end Go.Proofs.Ytjokcfenncogkaa
