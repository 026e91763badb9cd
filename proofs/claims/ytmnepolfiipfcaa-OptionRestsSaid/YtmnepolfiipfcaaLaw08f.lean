/-
  The walk of law 08's OptionRests. No condition.
-/
import Derived.Test.YtmnepolfiipfcaaTalkR
import Derived.Test.YtmnepolfiipfcaaOpt8
import Derived.Test.YtmnepolfiipfcaaOpt9
import Derived.Deep.CutBlock
import Derived.Deep.RegionHeldLaw
namespace Go.Proofs.Ytmnepolfiipfcaa
open Go.RowKit
set_option linter.unusedVariables false
set_option linter.unusedSimpArgs false

abbrev SayT := Int × Bool × Int × Int × Bool
def encSay (x : SayT) : List Value := [.int .u8 x.1, .bool x.2.1, .int .u8 x.2.2.1, .int .u8 x.2.2.2.1, .bool x.2.2.2.2]
theorem say_at {w : World} {B b off n : Nat} {L : List SayT} (h : Reads w B 5 (some ⟨b, off, none⟩) n (L.flatMap encSay)) {j : Nat} {x : SayT} (hj : L[j]? = some x) :
    w.cell? ⟨b, off + j * 5, none⟩ = some (.int .u8 x.1) ∧ w.cell? ⟨b, off + j * 5 + 1, none⟩ = some (.bool x.2.1) ∧ w.cell? ⟨b, off + j * 5 + 2, none⟩ = some (.int .u8 x.2.2.1) ∧ w.cell? ⟨b, off + j * 5 + 3, none⟩ = some (.int .u8 x.2.2.2.1) ∧ w.cell? ⟨b, off + j * 5 + 4, none⟩ = some (.bool x.2.2.2.2) := by
  have := row_at (enc := encSay) (k := 5) (fun _ => rfl) h hj (by decide)
  exact ⟨this 0 _ rfl, this 1 _ rfl, this 2 _ rfl, this 3 _ rfl, this 4 _ rfl⟩
theorem quiet_yes {b : Nat} {S : Nat → Nat → Int} {G : Nat → Nat → Bool} {w : World} (hm : MAt w b S G) (h : ∀ i o, i < 2 → o < 256 → S i o ≤ 1) :
    Calls Try.prog 18 #[.pointer (some ⟨b, 0, none⟩)] w fun e w' => e = .returned (.bool true) ∧ Up w w' := by
  refine (quiet_is b S G w hm).mono ?_
  rintro e w' ⟨⟨t, rfl, ht⟩, hu⟩
  rw [ht.2 h]
  exact ⟨rfl, hu⟩
set_option maxRecDepth 100000 in
set_option maxHeartbeats 6400000 in
theorem law_rests (A1 : Option Addr) (n1 c1 : Nat) (l1 : List Int) (A2 : Option Addr) (n2 c2 : Nat) (l2 : List Int) (A3 : Option Addr) (n3 c3 : Nat) (l3 : List Int) (A4 : Option Addr) (n4 c4 : Nat) (l4 : List Int) (A5 : Option Addr) (n5 c5 : Nat) (L : List SayT) (w : World)
    (hl1 : l1.length = n1) (hn1 : n1 ≤ c1) (hc1 : c1 ≤ maxLen) (hw1 : ∀ x ∈ l1, 0 ≤ x ∧ x ≤ 255) (hr1 : Reads w w.heap.size 1 A1 n1 (l1.map (Value.int .u8)))
    (hl2 : l2.length = n2) (hn2 : n2 ≤ c2) (hc2 : c2 ≤ maxLen) (hw2 : ∀ x ∈ l2, 0 ≤ x ∧ x ≤ 255) (hr2 : Reads w w.heap.size 1 A2 n2 (l2.map (Value.int .u8)))
    (hl3 : l3.length = n3) (hn3 : n3 ≤ c3) (hc3 : c3 ≤ maxLen) (hw3 : ∀ x ∈ l3, 0 ≤ x ∧ x ≤ 255) (hr3 : Reads w w.heap.size 1 A3 n3 (l3.map (Value.int .u8)))
    (hl4 : l4.length = n4) (hn4 : n4 ≤ c4) (hc4 : c4 ≤ maxLen) (hw4 : ∀ x ∈ l4, 0 ≤ x ∧ x ≤ 255) (hr4 : Reads w w.heap.size 1 A4 n4 (l4.map (Value.int .u8)))
    (hl5 : L.length = n5) (hn5 : n5 ≤ c5) (hc5 : c5 ≤ maxLen) (hw5 : ∀ x ∈ L, 0 ≤ x.1 ∧ x.1 ≤ 255 ∧ 0 ≤ x.2.2.1 ∧ x.2.2.1 ≤ 255 ∧ 0 ≤ x.2.2.2.1 ∧ x.2.2.2.1 ≤ 255) (hr5 : Reads w w.heap.size 5 A5 n5 (L.flatMap encSay)) :
    Calls Try.prog 5 #[.slice A1 n1 c1, .slice A2 n2 c2, .slice A3 n3 c3, .slice A4 n4 c4, .slice A5 n5 c5] w fun e w' => e = .returned (.bool true) ∧ Up w w' := by
  have hn5' : n5 ≤ 9223372036854775807 := by simp [maxLen] at hc5; omega
  have HR1 : Hid (Reads w w.heap.size 1 A1 n1 (bs l1)) := hr1
  have HR2 : Hid (Reads w w.heap.size 1 A2 n2 (bs l2)) := hr2
  have HR3 : Hid (Reads w w.heap.size 1 A3 n3 (bs l3)) := hr3
  have HR4 : Hid (Reads w w.heap.size 1 A4 n4 (bs l4)) := hr4
  have HR5 := Lib.hid hr5
  have HL := Lib.hid hl5
  have HW5 := Lib.hid hw5
  have HW1 := Lib.hid hw1
  have HW2 := Lib.hid hw2
  have HW3 := Lib.hid hw3
  have HW4 := Lib.hid hw4
  clear hr1 hr2 hr3 hr4 hr5 hl1 hl2 hl3 hl4 hl5 hw1 hw2 hw3 hw4 hw5
  go_enter Try.func5, Try.ntmps5
  go_wp2_with fail
  refine (awake08 _).mono ?_
  rintro e wa ⟨rfl, ua⟩
  go_wp2_with fail
  refine (cut_own (HR1.out.up ua) hn1 hc1 9 (by omega) (by omega)).mono ?_
  rintro e w11 ⟨B1, m1, d1, rfl, hm1, hs1, hf1, hd1, he1, u1⟩
  have hs1' := Lib.hid hs1
  clear hf1 hs1
  go_wp2_with fail
  refine (cut_own (HR2.out.up (ua.trans u1)) hn2 hc2 9 (by omega) (by omega)).mono ?_
  rintro e w21 ⟨B2, m2, d2, rfl, hm2, hs2, hf2, hd2, he2, u2⟩
  have hs1 := hs1'.out.up u2
  clear hf2 hs1'
  go_wp2_with fail
  refine (new_at hs1 hs2 (by omega) (by omega) (fun x hx => HW1.out x (List.mem_of_mem_take hx)) (fun x hx => HW2.out x (List.mem_of_mem_take hx))).mono ?_
  rintro e wd ⟨b0, rfl, hb0, hb0', hm00, u0m⟩
  clear hs1 hs2
  generalize agr _ _ = G0 at hm00
  have HM0 := Lib.hid hm00
  have U0 : Up w wd := (ua.trans u1).trans (u2.trans u0m)
  clear hm00
  go_wp2_with fail
  refine (cut_own (HR3.out.up U0) hn3 hc3 9 (by omega) (by omega)).mono ?_
  rintro e w31 ⟨B3, m3, d3, rfl, hm3, hs3, hf3, hd3, he3, u3⟩
  have hs3' := Lib.hid hs3
  clear hf3 hs3
  go_wp2_with fail
  refine (cut_own (HR4.out.up (U0.trans u3)) hn4 hc4 9 (by omega) (by omega)).mono ?_
  rintro e w41 ⟨B4, m4, d4, rfl, hm4, hs4, hf4, hd4, he4, u4⟩
  have hs3 := hs3'.out.up u4
  clear hf4 hs3'
  go_wp2_with fail
  refine (new_at hs3 hs4 (by omega) (by omega) (fun x hx => HW3.out x (List.mem_of_mem_take hx)) (fun x hx => HW4.out x (List.mem_of_mem_take hx))).mono ?_
  rintro e wh ⟨b1, rfl, hb1, hb1', hm10, u1m⟩
  clear hs3 hs4
  generalize agr _ _ = G1 at hm10
  have HM1 := Lib.hid hm10
  have U1 : Up w wh := (U0.trans u3).trans (u4.trans u1m)
  clear hm10
  have hb01 : b0 ≠ b1 := by have := (u3.trans u4).size; omega
  have hzd : wd.heap.size ≤ wh.heap.size := ((u3.trans u4).trans u1m).size
  have hwd : w.heap.size ≤ b0 := by have := (ua.trans (u1.trans u2)).size; omega
  have hwd1 : w.heap.size ≤ b1 := by have := (U0.trans (u3.trans u4)).size; omega
  obtain ⟨b, G, hb0e, hb1e, hrun⟩ := tat_start (HM0.out.up ((u3.trans u4).trans u1m) (by omega)) HM1.out hb01 (by omega) (by omega) 48
  have HRUN := Lib.hid hrun
  have HB0 := Lib.hid hb0e
  have HB1 := Lib.hid hb1e
  clear hrun hb0e hb1e
  go_upto_block 0 with (fail)
  have hU0 : Up w (wh.alloc (.cells #[.pointer (some ⟨b0, 0, none⟩), .pointer (some ⟨b1, 0, none⟩), .slice none 0 0, .slice none 0 0, .int .i64 0] 48)) := U1.alloc _
  have hzz : (wh.alloc (.cells #[.pointer (some ⟨b0, 0, none⟩), .pointer (some ⟨b1, 0, none⟩), .slice none 0 0, .slice none 0 0, .int .i64 0] 48)).heap.size = wh.heap.size + 1 := by simp
  generalize (wh.alloc (.cells #[.pointer (some ⟨b0, 0, none⟩), .pointer (some ⟨b1, 0, none⟩), .slice none 0 0, .slice none 0 0, .int .i64 0] 48)) = w0 at *
  have hTW : ∀ k, TW (wh.heap.size + 1) wh.heap.size b k → w.heap.size ≤ k := by
    have e0 := HB0.out
    have e1 := HB1.out
    intro k hk
    rcases hk with h | h | h | h <;> omega
  have HU0 := Lib.hid hU0
  have HTW := Lib.hid hTW
  obtain ⟨q, hq⟩ : ∃ q, wh.heap.size = q := ⟨_, rfl⟩
  rw [hq] at HRUN HTW hzz hb1' hzd ⊢
  clear hU0 hTW HR1 HR2 HR3 HR4 HM0 HM1 HW1 HW2 HW3 HW4
  clear hm1 hm2 hm3 hm4 hd1 he1 hd2 he2 hd3 he3 hd4 he4 hb0 hb1 ua u1 u2 u3 u4 u0m u1m hn1 hc1 hn2 hc2 hn3 hc3 hn4 hc4 U0 U1 hq
  have hL0 : Hid (Reads w0 w.heap.size 5 A5 n5 (L.flatMap encSay)) := HR5.out.below HU0.out
  go_cut [12, 13, 14, 15, 16, 17] from 36 to 102 (fun v _ _ _ _ _ wr => ∃ a : Nat, a ≤ 40 ∧ v = .int .i64 (a : Int) ∧ RunAt w0 (q + 1) q b G a (fun _ => True) (2 * a) wr)
  case first =>
    go_wp2_with fail
    go_loopw [12, 38] (fun v i wr => ∃ (j a : Nat), j ≤ n5 ∧ j ≤ 40 ∧ a ≤ j ∧ v = .int .i64 (a : Int) ∧ i = .int .i64 (j : Int) ∧ RunAt w0 (q + 1) q b G a (fun _ => True) (2 * a) wr) (fun _ i _ => n5 - (intOf i).toNat)
    case atStart => exact ⟨0, 0, by omega, by omega, by omega, rfl, rfl, HRUN.out⟩
    case round =>
      obtain ⟨j, a, hj, hj40, ha, rfl, rfl, hrun⟩ := hrel
      have HRun := Lib.hid hrun
      clear hrun
      by_cases hlt : j < n5
      · obtain ⟨g5, off, rfl, hg5⟩ := HR5.out.form (by omega)
        have hx : L[j]? = some (L[j]'(by have := HL.out; omega)) := List.getElem?_eq_getElem _
        have hwx := HW5.out _ (List.mem_of_getElem? hx)
        have hkr : Keep (TW (q + 1) q b) w0 wr := by obtain ⟨_, _, _, _, _, _, _, _, _, _, _, _, h⟩ := HRun.out; exact h
        have hcl : Reads wr w.heap.size 5 (some ⟨g5, off, none⟩) n5 (L.flatMap encSay) := (hL0.out.more (Nat.le_refl _)).held hkr (by have := HU0.out.size; omega) (fun i hi => HTW.out i hi)
        obtain ⟨x1, x2, x3, x4, x5⟩ := say_at hcl hx
        have hzr := hkr.size
        have hg5r : g5 < wr.heap.size := by have := HU0.out.size; omega
        generalize L[j]'(by have := HL.out; omega) = x at x1 x2 x3 x4 x5 hwx
        obtain ⟨who, ask, sd, op, on⟩ := x
        obtain ⟨hw0, hw1, hs0, hs1, ho0, ho1⟩ := hwx
        simp only at x1 x2 x3 x4 x5 hw0 hw1 hs0 hs1 ho0 ho1
        clear hx hcl hkr
        obtain ⟨e, O, he2, heO, hwho⟩ : ∃ e O : Nat, e < 2 ∧ e + O = 1 ∧ who.tmod 2 = (e : Int) := by
          rcases (show who.tmod 2 = 0 ∨ who.tmod 2 = 1 by rw [Int.tmod_eq_emod_of_nonneg hw0]; omega) with h | h
          · exact ⟨0, 1, by omega, by omega, h⟩
          · exact ⟨1, 0, by omega, by omega, h⟩
        have heI : (e : Int) < 2 := by omega
        have hO2 : O < 2 := by omega
        have hOI : (O : Int) < 2 := by omega
        have he256 : (e : Int) < 256 := by omega
        have hO1 : (1 : Int) - (e : Int) = (O : Int) := by omega
        by_cases h40 : j < 40
        · cases ask
          · go_wp2_with fail
            refine (run_hear he2 (HRun.out.up ((Up.refl wr).alloc (.cells #[.int .u8 who, .bool false, .int .u8 sd, .int .u8 op, .bool on] 50))) (by omega) (by omega)).mono ?_
            rintro x w' ⟨t, rfl, h'⟩
            have H' := Lib.hid h'
            clear h'
            go_wp2_with fail
            go_roundw
            case rel => exact ⟨j + 1, a, by omega, by omega, by omega, rfl, by go_num, H'.out⟩
            case measure => simp [intOf]; omega
          · obtain ⟨i, hi2, hi⟩ : ∃ i : Nat, i < 2 ∧ sd.tmod 2 = (i : Int) := ⟨(sd.tmod 2).toNat, by rw [Int.tmod_eq_emod_of_nonneg hs0]; omega, by rw [Int.tmod_eq_emod_of_nonneg hs0]; omega⟩
            obtain ⟨k, hk4, hk⟩ : ∃ k : Nat, k < 4 ∧ op.tmod 4 = (k : Int) := ⟨(op.tmod 4).toNat, by rw [Int.tmod_eq_emod_of_nonneg ho0]; omega, by rw [Int.tmod_eq_emod_of_nonneg ho0]; omega⟩
            have hi256 : (i : Int) < 256 := by omega
            have hk256 : (k : Int) < 256 := by omega
            have hiw : IntKind.i64.wrap (i : Int) = (i : Int) := by rcases (show i = 0 ∨ i = 1 by omega) with rfl | rfl <;> decide
            go_wp2_with fail
            obtain ⟨_, _, _, _, _, _, _, hT0, _, _, _, _, _⟩ := HRun.out
            obtain ⟨_, _, _, hqB, hb0B, hb1B, hBw0⟩ := hT0.ne
            clear hT0
            obtain ⟨t, A, n, c, Y, S, f, hT, hEn, ht, hM, -, hk0⟩ := HRun.out.up ((Up.refl wr).alloc (.cells #[.int .u8 who, .bool true, .int .u8 sd, .int .u8 op, .bool on] 50))
            have hcz := fun j => World.cell?_alloc_new wr #[.int .u8 who, .bool true, .int .u8 sd, .int .u8 op, .bool on] 50 j
            have z2 := hcz 2
            have z3 := hcz 3
            have z4 := hcz 4
            have zw1 : wr.heap.size < (wr.alloc (.cells #[.int .u8 who, .bool true, .int .u8 sd, .int .u8 op, .bool on] 50)).heap.size := by simp
            clear hcz
            generalize (wr.alloc (.cells #[.int .u8 who, .bool true, .int .u8 sd, .int .u8 op, .bool on] 50)) = w1 at *
            simp only [List.getElem?_toArray, List.getElem?_cons_zero, List.getElem?_cons_succ] at z2 z3 z4
            obtain ⟨i0, hii, hz0, hz1, hz2⟩ := info_parts info_msg
            have hmp := (hT.m_ he2).1
            have p1 := (hT.y_ hO2).1
            have p1f := (hT.y_ hO2).2.1
            have p2 := hT.tt.1
            have p2f := hT.tt.2
            have hYO : (Y O).length ≤ (Y 0).length + (Y 1).length := by rcases (show O = 0 ∨ O = 1 by omega) with rfl | rfl <;> omega
            have hnO : n O ≤ 80 := by have := (hT.y_ hO2).2.2.1; omega
            have ht80 : t ≤ 80 := by omega
            have hlen : n O = (Y O).length := (hT.y_ hO2).2.2.1.symm
            have HQO := Lib.hid (hT.y_ hO2).2.2
            have HQB := Lib.hid (hT.y_ hO2).2.2.at_
            have HM1 := Lib.hid (hT.m_ he2).2.1
            obtain ⟨-, -, hbeq, hbeB⟩ := hT.m_ he2
            have hBw := hT.ne.2.2.2.2.2.2
            have HT := Lib.hid hT
            have HEn := Lib.hid hEn
            have HK0 := Lib.hid hk0
            have HHT := Lib.hid ht
            have HHM := Lib.hid hM
            have zq := cell_lt p2
            have zb : b e < w1.heap.size := by omega
            clear hT hEn hk0 ht hM hlen hYO
            obtain ⟨K, hK⟩ : ∃ K, askL (i : Int) k on (S e) = K := ⟨_, rfl⟩
            obtain ⟨S', hS'⟩ : ∃ S', askS (i : Int) k on (S e) = S' := ⟨_, rfl⟩
            obtain ⟨ev, hev⟩ : ∃ ev, askE (i : Int) k on (S e) = ev := ⟨_, rfl⟩
            have hev2 : ev = 0 ∨ ev = 6 := by rw [← hev]; unfold askE; rw [if_pos (show isSide (i : Int) by unfold isSide; omega)]; split <;> simp
            have HKL := Lib.hid (askL_len (i : Int) k on (S e))
            have HASK := Lib.hid (fun W (hm : MAt W (b e) (S e) (G e)) (hz : b e < W.heap.size) => ask_at (i := (i : Int)) (t := on) k hm hz (by omega) rfl)
            rw [hK, hS', hev] at HASK
            rw [hK] at HKL
            have HK := Lib.hid hK
            have HS' := Lib.hid hS'
            have HEV := Lib.hid hev
            clear hK hS' hev
            have hbw1 : b e < w1.drew.heap.size := zb
            obtain ⟨bx, hbx⟩ : ∃ bx, wr.heap.size = bx := ⟨_, rfl⟩
            rw [hbx] at z2 z3 z4 zw1 hBw0 hzr hg5r ⊢
            clear hbx
            have hbxe : bx ≠ b e := by omega
            have hqe : q ≠ b e := fun h => hbeq h.symm
            go_region_held_law (fun w' => w'.cell? ⟨q, e, none⟩ = some (.pointer (some ⟨b e, 0, none⟩)) ∧ w'.cell? ⟨bx, 2, none⟩ = some (.int .u8 sd) ∧ w'.cell? ⟨bx, 3, none⟩ = some (.int .u8 op) ∧ w'.cell? ⟨bx, 4, none⟩ = some (.bool on)) (first | exact ⟨hmp, z2, z3, z4⟩ | exact ⟨s1, s2, s3, s4⟩ | go_keep) ((go_simp; go_at_call 14; (try rw [hiw]); refine (HASK.out w1.drew HM1.out.drew hbw1).mono ?_; rintro x w4 ⟨A6, n6, c6, rfl, hn5, hr5, hf5, hm5, hk5⟩; have HN5 := Lib.hid hn5; have HR5' := Lib.hid hr5; have HM5 := Lib.hid hm5; have HK5n := Lib.hid hk5; obtain ⟨kc, kf⟩ := hk5.at_ q (show q < w1.drew.heap.size from zq) hqe; obtain ⟨kx, -⟩ := hk5.at_ bx (show bx < w1.drew.heap.size from zw1) hbxe; have s1 := (kc e).trans hmp; have s2 := (kx 2).trans z2; have s3 := (kx 3).trans z3; have s4 := (kx 4).trans z4; clear hn5 hr5 hf5 hm5 hk5 kc kf kx))
            all_goals
              have hk5 := HK5n.out
              obtain ⟨kc, kf⟩ := hk5.at_ q (show q < w1.drew.heap.size from zq) (by omega)
              have a0 := (kc e).trans hmp
              have a1 := (kc (2 + O)).trans p1
              have a2 := (kc 4).trans p2
              have a1f := (kf (2 + O)).trans p1f
              have a2f := (kf 4).trans p2f
              have hz4 : w1.heap.size ≤ w4.heap.size := hk5.size
              have HQO5 := Lib.hid ((show Que (q + 1) w1.drew _ _ _ _ from HQO.out).keep hk5 (fun p hp e => by have := (HQB.out p hp).1; omega))
              have zq4 : q < w4.heap.size := by omega
              have hn5' : n6 ≤ 1 := by have := HKL.out; have := HN5.out; omega
              have qw1 : IntKind.i64.wrap 1 = 1 := by decide
              have qw0 : IntKind.i64.wrap 0 = 0 := by decide
              have hOw : IntKind.i64.wrap ((1 : Int) - (e : Int)) = (O : Int) := by rcases (show (e = 0 ∧ O = 1) ∨ (e = 1 ∧ O = 0) by omega) with ⟨rfl, rfl⟩ | ⟨rfl, rfl⟩ <;> decide
              have hOw' : IntKind.i64.wrap (O : Int) = (O : Int) := by rcases (show O = 0 ∨ O = 1 by omega) with rfl | rfl <;> decide
              have hcmo : (c O : Int) ≤ 9223372036854775807 := by have := HQO.out.2.2.1; simp [maxLen] at this; omega
              clear hk5 kc kf p1 p2 hmp p1f p2f x1 x2 x3 x4 x5 z2 z3 z4
              go_upto_if 75 with (fail)
              go_cut [12] from 76 to 77 (fun v wx => ∃ a' : Nat, w4 = wx ∧ v = .int .i64 (a' : Int) ∧ a' ≤ a + 1 ∧ Hid (a' = if ev = 0 then a + 1 else a))
              case first =>
                rcases hev2 with rfl | rfl
                · go_wp2_with fail
                  go_meet
                  case rel => exact ⟨a + 1, rfl, by simp, by omega, rfl⟩
                · go_wp2_with fail
                  go_meet
                  case rel => exact ⟨a, rfl, by simp, by omega, rfl⟩
              case rest =>
                obtain ⟨a', rfl, rfl, ha', HA'⟩ := hcut
                go_wp2_with fail
                go_region_law (refine step_que i0 hii hz0 hz1 hz2 Try.underlying30 rfl (.tmp 87) (.tmp 88) rfl (q + 1) (A O) A6 (n O) (c O) n6 c6 (Y O) K (by simp [Act.eval, Act.put]) (by simp [Act.eval, Act.put]) (show Que (q + 1) w4.drew _ _ _ _ from HQO5.out) (show Reads w4.drew w4.drew.heap.size 2 A6 n6 (ms K) from HR5'.out) (by omega) (by omega) (show q + 1 ≤ w4.drew.heap.size from by show q + 1 ≤ w4.heap.size; omega) ?_; intro A7 c7 w5 hq6 hk6 hb6; have HQ6 := Lib.hid hq6; have HK6 := Lib.hid hk6; have HB6 := Lib.hid hb6; obtain ⟨kc, kf⟩ := hk6.at_ q (show q < w4.drew.heap.size from zq4) (fun ⟨p, hp, e⟩ => by have := (HQB.out p hp).1; omega); have u0 := (kc e).trans a0; have u1 := (kc (2 + O)).trans a1; have u2 := (kc 4).trans a2; have u1f := (kf (2 + O)).trans a1f; have u2f := (kf 4).trans a2f; have zq5 := cell_lt u2; clear hq6 hk6 hb6 kc kf)
                all_goals
                  go_wp2_with fail
                  go_roundw
                  case rel =>
                    have e1 := HK.out
                    have e2 := HS'.out
                    subst e1 e2
                    have h9 := run_ask (w0 := w0) (a := a) (M := 2 * a) he2 heO hi2 hk4 HT.out HEn.out HHT.out HHM.out HK0.out (HM5.out) (((Keep.refl _ w1).drew).trans HK5n.out) HN5.out HQ6.out (((Keep.refl _ w4).drew).trans HK6.out) HB6.out
                    rw [HEV.out] at h9
                    have hA' := HA'.out
                    refine ⟨j + 1, a', by omega, by omega, by omega, rfl, by go_num, ?_⟩
                    rw [hA']
                    rcases hev2 with rfl | rfl
                    · exact h9
                    · exact h9
                  case measure => simp [intOf]; omega
        · go_wp2_with fail
          go_meet
          case rel => exact ⟨a, by omega, rfl, HRun.out.up ((Up.refl wr).alloc _)⟩
      · go_wp2_with fail
        go_meet
        case rel => exact ⟨a, by omega, rfl, HRun.out⟩
  case rest =>
    obtain ⟨a, ha40, rfl, hrun⟩ := hcut
    have HRun := Lib.hid hrun
    clear hrun HRUN hL0
    go_wp2_with fail
    go_loopw [103] (fun i wr => ∃ (j M : Nat), i = .int .i64 (j : Int) ∧ j + M ≤ 2 * a ∧ RunAt w0 (q + 1) q b G a (fun _ => True) M wr) (fun i _ => 1000 - (intOf i).toNat)
    case atStart => exact ⟨0, 2 * a, rfl, by omega, HRun.out⟩
    case round =>
      obtain ⟨j, M, rfl, hjM, hrun⟩ := hrel
      have HRn := Lib.hid hrun
      clear hrun
      have hj1000 : j < 1000 := by omega
      go_wp2_with fail
      refine (run_hear0 HRn.out (by omega) (by omega)).mono ?_
      rintro x w1 h
      have h1 : (x = .returned (.bool true) ∧ ∃ M1, M1 < M ∧ RunAt w0 (q + 1) q b G a (fun _ => True) M1 w1) ∨ (x = .returned (.bool false) ∧ RunAt w0 (q + 1) q b G a (fun Y => True ∧ Y 0 = []) M w1) := h
      clear h
      rcases h1 with ⟨rfl, M1, hM1, h1⟩ | ⟨rfl, h1⟩
      · have H1 := Lib.hid h1
        clear h1
        go_wp2_with fail
        refine (run_hear1 H1.out (by omega) (by omega)).mono ?_
        rintro x w2 h
        have h2 : ∃ t : Bool, x = .returned (.bool t) ∧ RunAt w0 (q + 1) q b G a (fun _ => True) M1 w2 := by
          rcases h with ⟨rfl, M2, hM2, h2⟩ | ⟨rfl, h2⟩
          · exact ⟨_, rfl, h2.weak (by omega) (fun _ _ => trivial)⟩
          · exact ⟨_, rfl, h2.weak (by omega) (fun _ _ => trivial)⟩
        obtain ⟨t, rfl, h3⟩ := h2
        have H2 := Lib.hid h3
        clear h h3
        go_wp2_with fail
        go_roundw
        case rel => exact ⟨j + 1, M1, by go_num, by omega, H2.out⟩
        case measure => simp [intOf]; omega
      · have H1 := Lib.hid h1
        clear h1
        go_wp2_with fail
        refine (run_hear1 H1.out (by omega) (by omega)).mono ?_
        rintro x w2 h
        have h2 : (x = .returned (.bool true) ∧ ∃ M2, M2 < M ∧ RunAt w0 (q + 1) q b G a (fun _ => True) M2 w2) ∨ (x = .returned (.bool false) ∧ RunAt w0 (q + 1) q b G a (fun Y => (True ∧ Y 0 = []) ∧ Y 1 = []) M w2) := h
        clear h
        rcases h2 with ⟨rfl, M2, hM2, h2⟩ | ⟨rfl, h2⟩
        · have H2 := Lib.hid h2
          clear h2
          go_wp2_with fail
          go_roundw
          case rel => exact ⟨j + 1, M2, by go_num, by omega, H2.out⟩
          case measure => simp [intOf]; omega
        · obtain ⟨t, A, n, c, Y, S, f, hT, hEn, ht, hM, ⟨⟨-, hY0⟩, hY1⟩, hk⟩ := h2
          obtain ⟨hle, hmind⟩ := ends_rest hEn hY0 hY1
          have hn0 : n 0 = 0 := by have := hT.q0.1; rw [hY0] at this; exact this.symm
          have hn1 : n 1 = 0 := by have := hT.q1.1; rw [hY1] at this; exact this.symm
          have p0 := hT.m0
          have p1 := hT.m1
          have y0 := hT.y0.1
          have y1 := hT.y1.1
          have p4 := hT.tt.1
          rw [hn0] at y0
          rw [hn1] at y1
          have ht4 : decide ((4 : Int) * (a : Int) < (t : Int)) = false := by simp; omega
          have ht80 : t ≤ 80 := by omega
          obtain ⟨-, -, -, hqB, hb0B, hb1B, hBw⟩ := hT.ne
          have zq : q < w2.heap.size := by omega
          have HMA0 := Lib.hid hT.at0
          have HMA1 := Lib.hid hT.at1
          have HOK0 := Lib.hid (hEn.ok 0 (by omega))
          have HOK1 := Lib.hid (hEn.ok 1 (by omega))
          have HLE := Lib.hid hle
          have HMI := Lib.hid hmind
          have hkk := HU0.out.keep hk (fun i hi => HTW.out i hi)
          have HKK := Lib.hid hkk
          have z0 : b 0 < w2.heap.size := by omega
          have z1 : b 1 < w2.heap.size := by omega
          clear hT hEn ht hM hY0 hY1 hk hle hmind hn0 hn1 hkk
          go_wp2_with fail
          refine wp_region_mix (NS := []) [] rfl (by kernel_rfl) (by kernel_rfl) (by simp) (by simp) ?_
          repeat (first
            | (refine mix_skip rfl rfl ?_; simp only [Act.put, List.setIfInBounds_toArray, List.set_cons_succ, List.set_cons_zero])
            | (refine mix_q rfl rfl rfl (by kernel_rfl) rfl rfl rfl ?_
               apply Exists.intro
               refine ⟨fun Wm => ?_, ?_⟩
               · simp only [fin]
                 skip
                 intro K hK
                 go_wp2_with ((first | (go_at_call_of 18 (Value.pointer (some ⟨b 0, 0, none⟩)); refine (quiet_yes (HMA0.out.up (up_upOf _ _) z0) (fun i o hi _ => HLE.out 0 i o (by omega) hi)).mono ?_; rintro x w' ⟨rfl, hux⟩) | (go_at_call_of 18 (Value.pointer (some ⟨b 1, 0, none⟩)); refine (quiet_yes (HMA1.out.up (up_upOf _ _) z1) (fun i o hi _ => HLE.out 1 i o (by omega) hi)).mono ?_; rintro x w' ⟨rfl, hux⟩)))
                 refine hK _ _ ?_ ?_ ?_
                 · (repeat (first | with_reducible exact Up.refl _ | with_reducible refine Up.alloc ?_ _ | with_reducible refine Up.drew ?_ | with_reducible refine Up.drewN ?_ _ | with_reducible refine Up.setCell ?_ (by (try simp) <;> omega) _ | with_reducible assumption | with_reducible refine Up.trans ?_ (by assumption)))
                 · rfl
                 · exact tmps_at rfl
               simp only [Act.put, List.setIfInBounds_toArray, List.set_cons_succ, List.set_cons_zero]))
          refine mix_nil ?_
          intro w3 hb_w3
          simp only [fin]
          have hu_w3 : Up w2 w3 := by (repeat (first | with_reducible exact Up.refl _ | with_reducible refine Up.alloc ?_ _ | with_reducible refine Up.drew ?_ | with_reducible refine Up.drewN ?_ _ | with_reducible refine Up.setCell ?_ (by (try simp) <;> omega) _ | with_reducible assumption | with_reducible refine Up.trans ?_ (by assumption)))
          have hz_w3 := Up.size hb_w3
          try simp at hz_w3
          obtain ⟨bc_w3_0, bf_w3_0⟩ := hu_w3.at_ (q) (by omega)
          have zb_w3_0 : q < w3.heap.size := by omega
          go_wp2_with fail
          go_loopw [157] (fun i wr => ∃ o : Nat, o ≤ 4 ∧ i = .int .i64 (o : Int) ∧ Up w3 wr) (fun i _ => 4 - (intOf i).toNat)
          case atStart => exact ⟨0, by omega, rfl, Up.refl _⟩
          case round =>
            obtain ⟨o, ho, rfl, hu⟩ := hrel
            by_cases hlt : o < 4
            · have hur := hu_w3.trans hu
              obtain ⟨kc, kf⟩ := hur.at_ q zq
              have r0 := (kc 0).trans p0
              have r1 := (kc 1).trans p1
              have zr := hur.size
              have HMB0 := Lib.hid (HMA0.out.up hur z0)
              have HMB1 := Lib.hid (HMA1.out.up hur z1)
              have zb0 : b 0 < wr.heap.size := by omega
              have zb1 : b 1 < wr.heap.size := by omega
              have zqr : q < wr.heap.size := by omega
              obtain ⟨t1, ht1⟩ : ∃ t1, (S 0 0 o == 1) = t1 := ⟨_, rfl⟩
              obtain ⟨t2, ht2⟩ : ∃ t2, (S 0 1 o == 1) = t2 := ⟨_, rfl⟩
              have HT1 := Lib.hid ht1
              have HT2 := Lib.hid ht2
              have HT1' : Hid ((S 1 1 o == 1) = t1) := by rw [← (HMI.out o hlt).1]; exact ht1
              have HT2' : Hid ((S 1 0 o == 1) = t2) := by rw [← (HMI.out o hlt).2]; exact ht2
              have how : IntKind.u8.wrap (o : Int) = (o : Int) := by rcases (show o = 0 ∨ o = 1 ∨ o = 2 ∨ o = 3 by omega) with rfl | rfl | rfl | rfl <;> decide
              have e1 : (t1 != t1) = false := by cases t1 <;> rfl
              have e2 : (t2 != t2) = false := by cases t2 <;> rfl
              have HUr := Lib.hid hu
              clear ht1 ht2 kc kf hur hu
              go_wp2_with fail
              refine wp_region_mix (NS := []) [] rfl (by kernel_rfl) (by kernel_rfl) (by simp) (by simp) ?_
              repeat (first
                | (refine mix_skip rfl rfl ?_; simp only [Act.put, List.setIfInBounds_toArray, List.set_cons_succ, List.set_cons_zero])
                | (refine mix_q rfl rfl rfl (by kernel_rfl) rfl rfl rfl ?_
                   apply Exists.intro
                   refine ⟨fun Wm => ?_, ?_⟩
                   · simp only [fin]
                     skip
                     intro K hK
                     go_wp2_with ((first | (go_at_call_of 13 (Value.pointer (some ⟨b 0, 0, none⟩)); go_at_call_of 13 (Value.int IntKind.i64 0); refine (on_at 0 o (HMB0.out.up (up_upOf _ _) zb0) HOK0.out (by omega) (by omega) rfl rfl HT1.out).mono ?_; rintro x w' ⟨rfl, rfl⟩) | (go_at_call_of 13 (Value.pointer (some ⟨b 1, 0, none⟩)); go_at_call_of 13 (Value.int IntKind.i64 1); refine (on_at 1 o (HMB1.out.up (up_upOf _ _) zb1) HOK1.out (by omega) (by omega) rfl rfl HT1'.out).mono ?_; rintro x w' ⟨rfl, rfl⟩) | (go_at_call_of 13 (Value.pointer (some ⟨b 0, 0, none⟩)); go_at_call_of 13 (Value.int IntKind.i64 1); refine (on_at 1 o (HMB0.out.up (up_upOf _ _) zb0) HOK0.out (by omega) (by omega) rfl rfl HT2.out).mono ?_; rintro x w' ⟨rfl, rfl⟩) | (go_at_call_of 13 (Value.pointer (some ⟨b 1, 0, none⟩)); go_at_call_of 13 (Value.int IntKind.i64 0); refine (on_at 0 o (HMB1.out.up (up_upOf _ _) zb1) HOK1.out (by omega) (by omega) rfl rfl HT2'.out).mono ?_; rintro x w' ⟨rfl, rfl⟩)))
                     refine hK _ _ ?_ ?_ ?_
                     · (repeat (first | with_reducible exact Up.refl _ | with_reducible refine Up.alloc ?_ _ | with_reducible refine Up.drew ?_ | with_reducible refine Up.drewN ?_ _ | with_reducible refine Up.setCell ?_ (by (try simp) <;> omega) _ | with_reducible assumption | with_reducible refine Up.trans ?_ (by assumption)))
                     · rfl
                     · exact tmps_at rfl
                   simp only [Act.put, List.setIfInBounds_toArray, List.set_cons_succ, List.set_cons_zero]))
              refine mix_nil ?_
              intro w4 hb_w4
              simp only [fin]
              have hu_w4 : Up wr w4 := by (repeat (first | with_reducible exact Up.refl _ | with_reducible refine Up.alloc ?_ _ | with_reducible refine Up.drew ?_ | with_reducible refine Up.drewN ?_ _ | with_reducible refine Up.setCell ?_ (by (try simp) <;> omega) _ | with_reducible assumption | with_reducible refine Up.trans ?_ (by assumption)))
              have hz_w4 := Up.size hb_w4
              try simp at hz_w4
              obtain ⟨bc_w4_0, bf_w4_0⟩ := hu_w4.at_ (q) (by omega)
              have zb_w4_0 : q < w4.heap.size := by omega
              go_wp2_with fail
              go_roundw
              case rel => exact ⟨o + 1, by omega, by go_num, HUr.out.trans hb_w4⟩
              case measure => simp [intOf]; omega
            · go_wp2_with fail
              go_ret
              exact ⟨rfl, (HKK.out.trans hu_w3).trans hu⟩
end Go.Proofs.Ytmnepolfiipfcaa
