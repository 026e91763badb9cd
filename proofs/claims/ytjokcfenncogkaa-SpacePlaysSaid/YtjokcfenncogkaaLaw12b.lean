/-
  The walk of SpacePlays: whatever the model, the script and the number, it returns true. No condition but where the acts lie.
-/
import Derived.Test.YtjokcfenncogkaaLSame12
import Derived.Test.YtjokcfenncogkaaLaw12a
namespace Go.Proofs.Ytjokcfenncogkaa
open Go.RowKit
set_option linter.unusedVariables false
set_option linter.unusedSimpArgs false

theorem Pair.sat {B : Nat} {w : World} {p q : Nat} {X : Spc} (h : Pair B w p q X) (ok : X.Ok) (n : Int) {d : Cl} (hd : X.at_ n = d) : Calls Try.prog 27 #[.pointer (some ⟨p, 0, none⟩), .int .i64 n] w fun e w' => e = .returned (.agg #[.int .u8 d.ch, .bool d.at_, .int .u8 d.fa, .int .u8 d.hi, .int .u8 d.co, .int .u8 d.se]) ∧ Up w w' := by
  obtain ⟨g, h', h1, h2, h3, h4⟩ := h
  have := sat_is n h1 ok
  rw [hd] at this
  exact this
theorem Pair.rat {B : Nat} {w : World} {p q : Nat} {X : Spc} (h : Pair B w p q X) (ok : X.Ok) (n : Int) {d : Cl} (hd : X.at_ n = d) : Calls Try.prog 46 #[.pointer (some ⟨q, 0, none⟩), .int .i64 n] w fun e w' => e = .returned (.agg #[.int .u8 d.ch, .bool d.at_, .int .u8 d.fa, .int .u8 d.hi, .int .u8 d.co, .int .u8 d.se]) ∧ Up w w' := by
  obtain ⟨g, h', h1, h2, h3, h4⟩ := h
  have := rat_is n h2 ok
  rw [hd] at this
  exact this
theorem Pair.scur {B : Nat} {w : World} {p q : Nat} {X : Spc} (h : Pair B w p q X) : Calls Try.prog 33 #[.pointer (some ⟨p, 0, none⟩)] w fun e w' => e = .returned (.int .i64 X.cur) ∧ w = w' := by
  obtain ⟨g, h', h1, h2, h3, h4⟩ := h
  exact scur_is h1
theorem Pair.rcur {B : Nat} {w : World} {p q : Nat} {X : Spc} (h : Pair B w p q X) : w.cell? ⟨q, 5, none⟩ = some (.int .i64 X.cur) ∧ q < w.heap.size ∧ B ≤ q := by
  obtain ⟨g, h', h1, h2, h3, h4⟩ := h
  exact ⟨h2.h5, h2.lt, h4.2.2.1⟩
theorem eqCC (d : Cl) (W : World) : (Op.equalIn 10000 25 (.agg #[.int .u8 d.ch, .bool d.at_, .int .u8 d.fa, .int .u8 d.hi, .int .u8 d.co, .int .u8 d.se]) (.agg #[.int .u8 d.ch, .bool d.at_, .int .u8 d.fa, .int .u8 d.hi, .int .u8 d.co, .int .u8 d.se])).run Try.prog W = .ok true W := eqC (c := d) (d := d) (by simp) W
set_option maxRecDepth 100000 in
set_option maxHeartbeats 12800000 in
theorem law_plays (m : Int) (A : Option Addr) (n cap : Nat) (l : List ActR) (nn : Int) (w : World) (m0 : 0 ≤ m) (m1 : m ≤ 255) (hl : l.length = n) (hn : n ≤ cap) (hc : cap ≤ maxLen) (hok : ∀ x ∈ l, x.Ok w w.heap.size) (hr : Reads w w.heap.size 11 A n (l.flatMap ActR.enc))
    (n0 : -9223372036854775808 ≤ nn) (n1 : nn ≤ 9223372036854775807) :
    Calls Try.prog 6 #[.int .u8 m, .slice A n cap, .int .i64 nn] w fun e w' => e = .returned (.bool true) ∧ Up w w' := by
  have HR := Lib.hid hr
  have HOK := Lib.hid hok
  have HL := Lib.hid hl
  have hcp : (cap : Int) ≤ 9223372036854775807 := by simp [maxLen] at hc; omega
  have hm2 : 2 ≤ 2 + m % 4 := by omega
  have hm5 : 2 + m % 4 ≤ 5 := by omega
  have hmd : 0 ≤ m % 4 ∧ m % 4 < 4 := by omega
  have HOX := Lib.hid (newS_ok hm2 hm5)
  have HWF := Lib.hid (show ∀ a ∈ plains l, a.Wf from fun a ha => by simp only [plains, List.mem_map] at ha; obtain ⟨x, hx, rfl⟩ := ha; exact (hok x hx).wf)
  have hd0 := hmd.1
  have hd1 := hmd.2
  clear hr hok hl hmd
  go_enter Try.func6, Try.ntmps6
  go_wp2_with fail
  refine (awake12 _).mono ?_
  rintro e w0 ⟨rfl, hb_w0⟩
  have hu_w0 : Up w w0 := by (repeat (first | with_reducible exact Up.refl _ | with_reducible refine Up.alloc ?_ _ | with_reducible refine Up.drew ?_ | with_reducible refine Up.drewN ?_ _ | with_reducible refine Up.setCell ?_ (by (try simp) <;> omega) _ | with_reducible assumption | with_reducible refine Up.trans ?_ (by assumption)))
  have hz_w0 := Up.size hb_w0
  try simp at hz_w0
  go_wp2_with fail
  generalize hmm : m % 4 = mm at *
  clear hmm
  refine (snew_is (m := 2 + mm) hm2 hm5).mono ?_
  rintro e w1 ⟨p, g, rfl, hp, hg, hs1, hu1⟩
  have HS1 := Lib.hid hs1
  have HU1 := Lib.hid hu1
  have zp1 := hs1.lt
  have zg1 := hs1.cells.2.1
  have z1 := hu1.size
  clear hs1 hu1
  go_wp2_with fail
  refine (rnew_is (m := 2 + mm) hm2 hm5).mono ?_
  rintro e w2 ⟨q, h, rfl, hq, hh, hr2, hu2⟩
  have HP2 := Lib.hid (show Pair w.heap.size w2 p q (newS (2 + mm)) from Pair.of (HS1.out.up hu2) hr2 (by omega) (by omega))
  have HU2 := Lib.hid (show Up w w2 from hu_w0.trans (HU1.out.trans hu2))
  have z2 := hu2.size
  clear hr2 hu2
  go_wp2_with fail
  go_loopw [30] (fun i wr => ∃ j : Nat, j ≤ n ∧ i = .int .i64 (j : Int) ∧ Pair w.heap.size wr p q (acts (newS (2 + mm)) (plains l) (min j 40)) ∧ Below w.heap.size w2 wr) (fun i _ => n - (intOf i).toNat)
  case atStart => exact ⟨0, by omega, rfl, by simpa [acts] using HP2.out, Below.refl _ _⟩
  case round =>
    obtain ⟨j, hj, rfl, hrj, huj⟩ := hrel
    have HRJ := Lib.hid hrj
    have HUJ := Lib.hid huj
    have zz := huj.size
    have HUW := Lib.hid (show Up w wr from HU2.out.past (huj.mono (by omega)))
    have HOJ := Lib.hid (acts_ok HOX.out HWF.out (min j 40))
    clear hrj
    by_cases hlt : j < n
    · obtain ⟨x, hx⟩ : ∃ x, l[j]? = some x := ⟨_, List.getElem?_eq_getElem (by have := HL.out; omega)⟩
      have hxok := (HOK.out x (List.mem_of_getElem? hx)).keep HUW.out
      have hrd := HR.out.below HUW.out
      obtain ⟨b, off, rfl, hb⟩ := hrd.form (by omega)
      have hrow := row_at (k := 11) (enc := ActR.enc) (fun _ => rfl) hrd hx (by omega)
      have x0 := hrow 0 _ rfl
      have x1 := hrow 1 _ rfl
      have x2 := hrow 2 _ rfl
      have x3 := hrow 3 _ rfl
      have x4 := hrow 4 _ rfl
      have x5 := hrow 5 _ rfl
      have x6 := hrow 6 _ rfl
      have x7 := hrow 7 _ rfl
      have x8 := hrow 8 _ rfl
      have x9 := hrow 9 _ rfl
      have x10 := hrow 10 _ rfl
      rw [Nat.add_zero] at x0
      have zb : b < wr.heap.size := by omega
      have HXK := Lib.hid hxok
      have hpl : (plains l)[j]? = some x.a := by simp [plains, hx]
      have HAS := Lib.hid (acts_succ (newS (2 + mm)) (plains l) j)
      rw [hpl] at HAS
      simp only at HAS
      have hjn : (j : Int) < (n : Int) := by omega
      clear hrow hrd hxok hx hpl huj
      by_cases h30 : j < 40
      · have h30' : (j : Int) < 40 := by omega
        have hmin : min j 40 = j := by omega
        have HMIN := Lib.hid (show min (j + 1) 40 = j + 1 by omega)
        rw [hmin] at HRJ HOJ
        clear hmin
        go_wp2_with fail
        refine (do12_b (B := w.heap.size) x.a x.A x.cap HXK.out.wf HRJ.out HOJ.out (HXK.out.rd.alloc (by omega) _) (by omega) HXK.out.le HXK.out.mx).mono ?_
        rintro e w3 ⟨rfl, hr3, hb3, hc3, hz3⟩
        have HX3 := Lib.hid (show Pair w.heap.size w3 p q (acts (newS (2 + mm)) (plains l) (j + 1)) by rw [HAS.out]; exact hr3)
        have HO3 := Lib.hid (show (acts (newS (2 + mm)) (plains l) (j + 1)).Ok from acts_ok HOX.out HWF.out (j + 1))
        have HB3 := Lib.hid (show Below w.heap.size w2 w3 from HUJ.out.trans hb3)
        have HAC := Lib.hid HAS.out
        obtain ⟨Y, hY⟩ : ∃ Y, acts (newS (2 + mm)) (plains l) (j + 1) = Y := ⟨_, rfl⟩
        rw [hY] at HX3 HO3
        have HY := Lib.hid hY
        obtain ⟨an, han⟩ : ∃ an, x.a.n = an := ⟨_, rfl⟩
        have b1 : w3.cell? ⟨wr.heap.size, 1, none⟩ = some (.int .i64 an) := (hc3 1).trans (by rw [← han]; simp [go_sem])
        obtain ⟨d, hd⟩ : ∃ d, Y.at_ an = d := ⟨_, rfl⟩
        have HAS3 := Lib.hid (fun W (h : Pair w.heap.size W p q Y) => h.sat HO3.out an hd)
        have HAR3 := Lib.hid (fun W (h : Pair w.heap.size W p q Y) => h.rat HO3.out an hd)
        obtain ⟨k5, zq5, -⟩ := HX3.out.rcur
        have ea := eqCC d
        have HMI := Lib.hid (show min (j + 1) 40 = j + 1 from by omega)
        clear hr3 hb3 hc3 hY hd han x0 x1 x2 x3 x4 x5 x6 x7 x8 x9 x10
        go_wp2_with fail
        refine wp_region_mix (NS := []) [] rfl (by kernel_rfl) (by kernel_rfl) (by simp) (by simp) ?_
        repeat (first
          | (refine mix_skip rfl rfl ?_; simp only [Act.put, List.setIfInBounds_toArray, List.set_cons_succ, List.set_cons_zero])
          | (refine mix_q rfl rfl rfl (by kernel_rfl) rfl rfl rfl ?_
             apply Exists.intro
             refine ⟨fun Wm => ?_, ?_⟩
             · simp only [fin]
               skip
               intro K hK
               go_wp2_with ((first | (go_at_call 27; (with_reducible refine (HAS3.out _ (HX3.out.up (up_upOf _ _))).mono ?_); rintro e w' ⟨rfl, hux⟩) | (go_at_call 46; (with_reducible refine (HAR3.out _ (HX3.out.up (up_upOf _ _))).mono ?_); rintro e w' ⟨rfl, hux⟩) | (go_at_call 33; (with_reducible refine (Pair.scur (HX3.out.up (up_upOf _ _))).mono ?_); rintro e w' ⟨rfl, rfl⟩)))
               refine hK _ _ ?_ ?_ ?_
               · (repeat (first | with_reducible exact Up.refl _ | with_reducible refine Up.alloc ?_ _ | with_reducible refine Up.drew ?_ | with_reducible refine Up.drewN ?_ _ | with_reducible refine Up.setCell ?_ (by (try simp) <;> omega) _ | with_reducible assumption | with_reducible refine Up.trans ?_ (by assumption)))
               · rfl
               · exact tmps_at rfl
             simp only [Act.put, List.setIfInBounds_toArray, List.set_cons_succ, List.set_cons_zero]))
        refine mix_nil ?_
        intro w4 hb_w4
        simp only [fin]
        have hu_w4 : Up w3 w4 := by (repeat (first | with_reducible exact Up.refl _ | with_reducible refine Up.alloc ?_ _ | with_reducible refine Up.drew ?_ | with_reducible refine Up.drewN ?_ _ | with_reducible refine Up.setCell ?_ (by (try simp) <;> omega) _ | with_reducible assumption | with_reducible refine Up.trans ?_ (by assumption)))
        have hz_w4 := Up.size hb_w4
        try simp at hz_w4
        obtain ⟨bc_w4_0, bf_w4_0⟩ := hu_w4.at_ (wr.heap.size) (by omega)
        obtain ⟨bc_w4_1, bf_w4_1⟩ := hu_w4.at_ (q) (by omega)
        have zb_w4_0 : wr.heap.size < w4.heap.size := by omega
        have zb_w4_1 : q < w4.heap.size := by omega
        go_wp2_with fail
        go_roundw
        case rel => exact ⟨j + 1, by omega, by go_num, by rw [HMI.out, HY.out]; exact HX3.out.up hb_w4, HB3.out.trans (below_up hb_w4 (by omega))⟩
        case measure => simp [intOf]; omega
      · have h30' : ¬ (j : Int) < 40 := by omega
        have hmin : min j 40 = 40 := by omega
        rw [hmin] at HRJ
        clear hmin HOJ HAS
        have HP0 := Lib.hid (HRJ.out.up ((Up.refl wr).alloc (.cells #[.int .u8 x.a.d, .int .i64 x.a.n, .bool x.a.on, .int .u8 x.a.code, .int .u8 x.a.c.ch, .bool x.a.c.at_, .int .u8 x.a.c.fa, .int .u8 x.a.c.hi, .int .u8 x.a.c.co, .int .u8 x.a.c.se, .slice x.A x.a.text.length x.cap] 35)))
        obtain ⟨X, hX⟩ : ∃ X, acts (newS (2 + mm)) (plains l) 40 = X := ⟨_, rfl⟩
        have HOX2 := Lib.hid (acts_ok HOX.out HWF.out 40)
        rw [hX] at HP0 HOX2
        have HLS := Lib.hid (fun W (h : Pair w.heap.size W p q X) => lsame_is h HOX2.out)
        obtain ⟨d, hd⟩ : ∃ d, X.at_ nn = d := ⟨_, rfl⟩
        have HAS2 := Lib.hid (fun W (h : Pair w.heap.size W p q X) => h.sat HOX2.out nn hd)
        have HAR2 := Lib.hid (fun W (h : Pair w.heap.size W p q X) => h.rat HOX2.out nn hd)
        have ea := eqCC d
        clear hX hd
        go_wp2_with fail
        refine (HLS.out _ HP0.out).mono ?_
        rintro e w5 ⟨rfl, hu5⟩
        have HP5 := Lib.hid (HP0.out.up hu5)
        go_wp2_with fail
        refine (HAS2.out _ HP5.out).mono ?_
        rintro e w6 ⟨rfl, hu6⟩
        go_wp2_with fail
        refine (HAR2.out _ (HP5.out.up hu6)).mono ?_
        rintro e w7 ⟨rfl, hu7⟩
        go_wp2_with fail
        go_ret
        exact ⟨rfl, ((HUW.out.alloc _).trans hu5).trans (hu6.trans hu7)⟩
    · obtain rfl : j = n := by omega
      rw [acts_min (by simp [plains, HL.out])] at HRJ
      clear huj HOJ
      obtain ⟨X, hX⟩ : ∃ X, acts (newS (2 + mm)) (plains l) 40 = X := ⟨_, rfl⟩
      have HOX2 := Lib.hid (acts_ok HOX.out HWF.out 40)
      rw [hX] at HRJ HOX2
      have HLS := Lib.hid (fun W (h : Pair w.heap.size W p q X) => lsame_is h HOX2.out)
      obtain ⟨d, hd⟩ : ∃ d, X.at_ nn = d := ⟨_, rfl⟩
      have HAS2 := Lib.hid (fun W (h : Pair w.heap.size W p q X) => h.sat HOX2.out nn hd)
      have HAR2 := Lib.hid (fun W (h : Pair w.heap.size W p q X) => h.rat HOX2.out nn hd)
      have ea := eqCC d
      clear hX hd
      go_wp2_with fail
      refine (HLS.out _ HRJ.out).mono ?_
      rintro e w5 ⟨rfl, hu5⟩
      have HP5 := Lib.hid (HRJ.out.up hu5)
      go_wp2_with fail
      refine (HAS2.out _ HP5.out).mono ?_
      rintro e w6 ⟨rfl, hu6⟩
      go_wp2_with fail
      refine (HAR2.out _ (HP5.out.up hu6)).mono ?_
      rintro e w7 ⟨rfl, hu7⟩
      go_wp2_with fail
      go_ret
      exact ⟨rfl, (HUW.out.trans hu5).trans (hu6.trans hu7)⟩
end Go.Proofs.Ytjokcfenncogkaa
