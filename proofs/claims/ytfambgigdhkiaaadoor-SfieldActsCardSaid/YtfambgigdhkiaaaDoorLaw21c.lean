/-
  The walk of SfieldActs: every act has its field, which asks for it again, or it is said why not. Conditions: both tables lie as the row lists them.
-/
import Derived.Test.YtfambgigdhkiaaaDoorRMk2
import Derived.Test.YtfambgigdhkiaaaDoorRFew
import Derived.Test.YtfambgigdhkiaaaDoorSName
import Derived.Test.YtfambgigdhkiaaaDoorSTold
namespace Go.Proofs.YtfambgigdhkiaaaDoor
open Go.RowKit
set_option linter.unusedVariables false
set_option linter.unusedSimpArgs false

/-- an act's box -/
structure ABox (w : World) (b : Nat) (a : PAct) (A1 : Option Addr) (c1 : Nat) (A2 : Option Addr) (c2 : Nat) : Prop where
  lt : b < w.heap.size
  a0 : w.cell? ⟨b, 0, none⟩ = some (.int .i64 a.kind)
  a1 : w.cell? ⟨b, 1, none⟩ = some (.int .i64 a.cmd)
  a2 : w.cell? ⟨b, 2, none⟩ = some (.int .i64 a.mode)
  a3 : w.cell? ⟨b, 3, none⟩ = some (.bool a.alt)
  a4 : w.cell? ⟨b, 4, none⟩ = some (.int .u8 a.req)
  a5 : w.cell? ⟨b, 5, none⟩ = some (.slice A1 a.codes.length c1)
  a6 : w.cell? ⟨b, 6, none⟩ = some (.slice A2 a.rec_.length c2)
theorem few_sl {a : PAct} {A1 A2 : Option Addr} {B1 B2 c1 c2 : Nat} {w : World} (h1 : Sl B1 w A1 a.codes.length c1 a.codes) (h2 : Sl B2 w A2 a.rec_.length c2 a.rec_) (l1 : a.codes.length ≤ 20) (l2 : a.rec_.length ≤ 300) :
    Calls Tryd.prog 9 #[actV a A1 c1 A2 c2] w fun e w' => ∃ A3 c3 A4 c4, e = .returned (actV a A3 c3 A4 c4) ∧ Sl w.heap.size w' A3 a.codes.length c3 a.codes ∧ Sl w.heap.size w' A4 a.rec_.length c4 a.rec_ ∧ Up w w' := by
  have t1 : a.codes.take 20 = a.codes := List.take_of_length_le l1
  have t2 : a.rec_.take 300 = a.rec_ := List.take_of_length_le l2
  have := few_is (k := a.kind) (cm := a.cmd) (m := a.mode) (rq := a.req) (al := a.alt) h1.rd h1.bytes h1.cap h1.mx h2.rd h2.bytes h2.cap h2.mx
  rw [t1, t2] at this
  exact this
theorem same_refl (a : PAct) : sameB a a = true := sameB_iff.2 rfl
set_option maxRecDepth 100000 in
set_option maxHeartbeats 6400000 in
theorem law_acts (k cm m : Int) (al : Bool) (rq : Int) (A1 : Option Addr) (n1 c1 : Nat) (L1 : List Int) (A2 : Option Addr) (n2 c2 : Nat) (L2 : List Int) (w : World)
    (k0 : -9223372036854775808 ≤ k) (k1 : k ≤ 9223372036854775807) (cm0 : -9223372036854775808 ≤ cm) (cm1 : cm ≤ 9223372036854775807) (mm0 : -9223372036854775808 ≤ m) (mm1 : m ≤ 9223372036854775807) (q0 : 0 ≤ rq) (q1 : rq ≤ 255)
    (hl1 : L1.length = n1) (hn1 : n1 ≤ c1) (hc1 : c1 ≤ maxLen) (hw1 : ∀ x ∈ L1, 0 ≤ x ∧ x ≤ 255) (hr1 : Reads w w.heap.size 1 A1 n1 (L1.map (Value.int .u8)))
    (hl2 : L2.length = n2) (hn2 : n2 ≤ c2) (hc2 : c2 ≤ maxLen) (hw2 : ∀ x ∈ L2, 0 ≤ x ∧ x ≤ 255) (hr2 : Reads w w.heap.size 1 A2 n2 (L2.map (Value.int .u8))) (hT : TabW w) (hS : TabS w) :
    Calls Tryd.prog 6 #[.agg #[.int .i64 k, .int .i64 cm, .int .i64 m, .bool al, .int .u8 rq, .slice A1 n1 c1, .slice A2 n2 c2]] w fun e w' => e = .returned (.bool true) ∧ Up w w' := by
  have HT := Lib.hid hT
  have HS := Lib.hid hS
  have HR1 : Hid (Reads w w.heap.size 1 A1 n1 (bs L1)) := Lib.hid hr1
  have HR2 : Hid (Reads w w.heap.size 1 A2 n2 (bs L2)) := Lib.hid hr2
  have HW1 := Lib.hid hw1
  have HW2 := Lib.hid hw2
  clear hT hS hr1 hr2 hw1 hw2 hl1 hl2
  obtain ⟨a, ha⟩ : ∃ a : PAct, a = ⟨k, cm, m, al, rq, L1.take 20, L2.take 300⟩ := ⟨_, rfl⟩
  have HA := Lib.hid ha
  clear ha
  go_enter Tryd.func6, Tryd.ntmps6
  go_wp2_with fail
  refine (awake21 _ (HT.out.up (by (repeat (first | with_reducible exact Up.refl _ | with_reducible refine Up.alloc ?_ _ | with_reducible refine Up.drew ?_ | with_reducible refine Up.drewN ?_ _ | with_reducible refine Up.setCell ?_ (by (try simp) <;> omega) _ | with_reducible assumption | with_reducible refine Up.trans ?_ (by assumption)))))).mono ?_
  rintro e w1 ⟨rfl, hu1⟩
  obtain ⟨ka, fa⟩ := hu1.at_ w.heap.size (by simp)
  have hz1 := hu1.size
  (try simp at hz1)
  have y0 : w.heap.size < w1.heap.size := by omega
  have UW1 : Hid (Up w w1) := Lib.hid (by (repeat (first | with_reducible exact Up.refl _ | with_reducible refine Up.alloc ?_ _ | with_reducible refine Up.drew ?_ | with_reducible refine Up.drewN ?_ _ | with_reducible refine Up.setCell ?_ (by (try simp) <;> omega) _ | with_reducible assumption | with_reducible refine Up.trans ?_ (by assumption))))
  clear hu1
  go_upto_region 3 with (fail)
  go_cut [11] from 11 to 12 (fun s11 wx => ∃ A3 c3 A4 c4, ABox wx w.heap.size a A3 c3 A4 c4 ∧ Sl (w.heap.size + 1) wx A3 a.codes.length c3 a.codes ∧ Sl (w.heap.size + 1) wx A4 a.rec_.length c4 a.rec_ ∧ Up w wx)
  case first =>
    go_wp2_with (go_at_call 9; refine (few_is (HR1.out.up UW1.out) HW1.out hn1 hc1 (HR2.out.up UW1.out) HW2.out hn2 hc2).mono ?_; rintro e w2 ⟨A3, c3, A4, c4, rfl, s3, s4, u2⟩; obtain ⟨la, ga⟩ := u2.at_ w.heap.size y0; have hz2 := u2.size; have x0 : w.heap.size < w2.heap.size := (by omega); have S3 := Lib.hid s3; have S4 := Lib.hid s4; have U2 := Lib.hid u2; clear s3 s4 u2)
    go_meet
    have hav := HA.out
    subst hav
    have uw2 : Up w w2 := UW1.out.trans U2.out
    refine ⟨A3, c3, A4, c4, ⟨by simp [World.setCell]; omega, by go_simp, by go_simp, by go_simp, by go_simp, by go_simp, by go_simp, by go_simp⟩, ?_, ?_, by (repeat (first | with_reducible exact Up.refl _ | with_reducible refine Up.alloc ?_ _ | with_reducible refine Up.drew ?_ | with_reducible refine Up.drewN ?_ _ | with_reducible refine Up.setCell ?_ (by (try simp) <;> omega) _ | with_reducible assumption | with_reducible refine Up.trans ?_ (by assumption)))⟩
    · repeat with_reducible refine Sl.set1 ?_ (by omega) _ _
      exact S3.out.low (by omega)
    · repeat with_reducible refine Sl.set1 ?_ (by omega) _ _
      exact S4.out.low (by omega)
  case rest =>
    obtain ⟨A3, c3, A4, c4, hb, hs3, hs4, up⟩ := hcut
    obtain ⟨blt, a0, a1, a2, a3, a4, a5, a6⟩ := hb
    have hla : a.codes.length ≤ 20 := by rw [HA.out]; simp; omega
    have hlr : a.rec_.length ≤ 300 := by rw [HA.out]; simp; omega
    have hqa : 0 ≤ a.req ∧ a.req ≤ 255 := by rw [HA.out]; exact ⟨q0, q1⟩
    clear HA HR1 HR2 HW1 HW2 UW1
    have HS3 := Lib.hid hs3
    have HS4 := Lib.hid hs4
    have UP := Lib.hid up
    clear hs3 hs4 up
    obtain ⟨i, dl, er, hf⟩ : ∃ i dl er, fieldOf a = (i, dl, er) := ⟨_, _, _, rfl⟩
    have HF := Lib.hid hf
    have HMK := Lib.hid (fun (w' : World) (hu : Up wc w') => make_is (a := a) (HS3.out.up hu) (HS4.out.up hu) hqa (by omega) (by omega))
    have HFI := Lib.hid (fun (B1 B2 C1 C2 : Nat) (X1 X2 : Option Addr) (w' : World) (hu : Up wc w') (h1 : Sl B1 w' X1 a.codes.length C1 a.codes) (h2 : Sl B2 w' X2 a.rec_.length C2 a.rec_) => field_is (a := a) (HT.out.up (UP.out.trans hu)) hqa h1 h2 (by omega) (by omega))
    rw [hf] at HMK HFI
    clear hf
    go_wp2_with fail
    refine (few_sl (a := a) HS3.out HS4.out hla hlr).mono ?_
    rintro e w3 ⟨A5, c5, A6, c6, rfl, s5, s6, hb_w3⟩
    have hu_w3 : Up wc w3 := by (repeat (first | with_reducible exact Up.refl _ | with_reducible refine Up.alloc ?_ _ | with_reducible refine Up.drew ?_ | with_reducible refine Up.drewN ?_ _ | with_reducible refine Up.setCell ?_ (by (try simp) <;> omega) _ | with_reducible assumption | with_reducible refine Up.trans ?_ (by assumption)))
    have hz_w3 := Up.size hb_w3
    try simp at hz_w3
    obtain ⟨bc_w3_0, bf_w3_0⟩ := hu_w3.at_ (w.heap.size) (by omega)
    have zb_w3_0 : w.heap.size < w3.heap.size := by omega
    go_wp2_with fail
    refine (HFI.out _ _ _ _ _ _ _ (by (repeat (first | with_reducible exact Up.refl _ | with_reducible refine Up.alloc ?_ _ | with_reducible refine Up.drew ?_ | with_reducible refine Up.drewN ?_ _ | with_reducible refine Up.setCell ?_ (by (try simp) <;> omega) _ | with_reducible assumption | with_reducible refine Up.trans ?_ (by assumption)))) s5 s6).mono ?_
    rintro e w4 ⟨F1, f1, rfl, s7, hb_w4⟩
    have hu_w4 : Up w3 w4 := by (repeat (first | with_reducible exact Up.refl _ | with_reducible refine Up.alloc ?_ _ | with_reducible refine Up.drew ?_ | with_reducible refine Up.drewN ?_ _ | with_reducible refine Up.setCell ?_ (by (try simp) <;> omega) _ | with_reducible assumption | with_reducible refine Up.trans ?_ (by assumption)))
    have hz_w4 := Up.size hb_w4
    try simp at hz_w4
    obtain ⟨bc_w4_0, bf_w4_0⟩ := hu_w4.at_ (w.heap.size) (by omega)
    have zb_w4_0 : w.heap.size < w4.heap.size := by omega
    go_wp2_with fail
    refine (HMK.out _ (by (repeat (first | with_reducible exact Up.refl _ | with_reducible refine Up.alloc ?_ _ | with_reducible refine Up.drew ?_ | with_reducible refine Up.drewN ?_ _ | with_reducible refine Up.setCell ?_ (by (try simp) <;> omega) _ | with_reducible assumption | with_reducible refine Up.trans ?_ (by assumption))))).mono ?_
    rintro e w5 ⟨G1, g1, rfl, s8, hb_w5⟩
    have hu_w5 : Up w4 w5 := by (repeat (first | with_reducible exact Up.refl _ | with_reducible refine Up.alloc ?_ _ | with_reducible refine Up.drew ?_ | with_reducible refine Up.drewN ?_ _ | with_reducible refine Up.setCell ?_ (by (try simp) <;> omega) _ | with_reducible assumption | with_reducible refine Up.trans ?_ (by assumption)))
    have hz_w5 := Up.size hb_w5
    try simp at hz_w5
    obtain ⟨bc_w5_0, bf_w5_0⟩ := hu_w5.at_ (w.heap.size) (by omega)
    obtain ⟨bd_w5_0, be_w5_0⟩ := hb_w5.at_ (w4.heap.size) (by (try simp) <;> omega)
    have zb_w5_0 : w.heap.size < w5.heap.size := by omega
    have zb_w5_1 : w4.heap.size < w5.heap.size := by omega
    go_wp2_with fail
    have uw5 : Up w w5 := UP.out.trans (hu_w3.trans (hu_w4.trans (by (repeat (first | with_reducible exact Up.refl _ | with_reducible refine Up.alloc ?_ _ | with_reducible refine Up.drew ?_ | with_reducible refine Up.drewN ?_ _ | with_reducible refine Up.setCell ?_ (by (try simp) <;> omega) _ | with_reducible assumption | with_reducible refine Up.trans ?_ (by assumption))))))
    have HSAM := Lib.hid (fun (w' : World) (hu : Up w5 w') => same_sl (s7.up ((show Up w4 w5 by (repeat (first | with_reducible exact Up.refl _ | with_reducible refine Up.alloc ?_ _ | with_reducible refine Up.drew ?_ | with_reducible refine Up.drewN ?_ _ | with_reducible refine Up.setCell ?_ (by (try simp) <;> omega) _ | with_reducible assumption | with_reducible refine Up.trans ?_ (by assumption)))).trans hu)) (s8.up hu))
    have HNA := Lib.hid (fun (w' : World) (hu : Up w5 w') => sname_is a.kind w' (HS.out.up (uw5.trans hu)))
    have hdd : decide (dl = dl) = true := by simp
    rw [hdd] at HSAM
    have HS7 := Lib.hid s7
    have UW5 := Lib.hid uw5
    clear hdd s5 s6 s7 s8 uw5
    have HPL := Lib.hid (fun (w' : World) (hu : Up wc w') => plain_is (a := a) (HS3.out.up hu) (HS4.out.up hu))
    have UC5 : Hid (Up wc w5) := Lib.hid (by (repeat (first | with_reducible exact Up.refl _ | with_reducible refine Up.alloc ?_ _ | with_reducible refine Up.drew ?_ | with_reducible refine Up.drewN ?_ _ | with_reducible refine Up.setCell ?_ (by (try simp) <;> omega) _ | with_reducible assumption | with_reducible refine Up.trans ?_ (by assumption))))
    refine wp_region_up_lit (by kernel_rfl) (by kernel_rfl) ?_
    repeat (go_big_quiet_step (first | (go_at_call 17; exact up_same (HSAM.out _ (((Up.refl w5).alloc _).trans (up_upOf _ _)))) | (go_at_call 28; exact up_same (HNA.out _ (((Up.refl w5).alloc _).trans (up_upOf _ _)))) | (go_at_call 29; exact up_call (rname_is _ _))))
    refine wpQuiet_nil ?_
    rintro w6 ⟨W_w6, hw_w6⟩
    have hb_w6 : Up _ w6 := hw_w6 ▸ up_upOf _ _
    clear hw_w6 W_w6
    have hu_w6 : Up w5 w6 := by (repeat (first | with_reducible exact Up.refl _ | with_reducible refine Up.alloc ?_ _ | with_reducible refine Up.drew ?_ | with_reducible refine Up.drewN ?_ _ | with_reducible refine Up.setCell ?_ (by (try simp) <;> omega) _ | with_reducible assumption | with_reducible refine Up.trans ?_ (by assumption)))
    have hz_w6 := Up.size hb_w6
    try simp at hz_w6
    obtain ⟨bc_w6_0, bf_w6_0⟩ := hu_w6.at_ (w.heap.size) (by omega)
    obtain ⟨bc_w6_1, bf_w6_1⟩ := hu_w6.at_ (w4.heap.size) (by omega)
    obtain ⟨bd_w6_0, be_w6_0⟩ := hb_w6.at_ (w5.heap.size) (by (try simp) <;> omega)
    have zb_w6_0 : w.heap.size < w6.heap.size := by omega
    have zb_w6_1 : w4.heap.size < w6.heap.size := by omega
    have zb_w6_2 : w5.heap.size < w6.heap.size := by omega
    go_wp2_with fail
    · go_ret
      exact ⟨rfl, UW5.out.trans (by (repeat (first | with_reducible exact Up.refl _ | with_reducible refine Up.alloc ?_ _ | with_reducible refine Up.drew ?_ | with_reducible refine Up.drewN ?_ _ | with_reducible refine Up.setCell ?_ (by (try simp) <;> omega) _ | with_reducible assumption | with_reducible refine Up.trans ?_ (by assumption))))⟩
    · have he0 : er = 0 := by first | (have h := ‹(er != 0) = false›; simpa using h) | (rename_i h; simpa using h)
      have hask : actOf i dl = (plainOf a, 0) := by
        have := field_asks (a := a) (by rw [HF.out]; exact he0)
        rw [HF.out] at this
        exact this
      have HAK := Lib.hid hask
      clear hask
      refine (act_is (HT.out.up (UW5.out.trans (by (repeat (first | with_reducible exact Up.refl _ | with_reducible refine Up.alloc ?_ _ | with_reducible refine Up.drew ?_ | with_reducible refine Up.drewN ?_ _ | with_reducible refine Up.setCell ?_ (by (try simp) <;> omega) _ | with_reducible assumption | with_reducible refine Up.trans ?_ (by assumption)))))) (HS7.out.up (by (repeat (first | with_reducible exact Up.refl _ | with_reducible refine Up.alloc ?_ _ | with_reducible refine Up.drew ?_ | with_reducible refine Up.drewN ?_ _ | with_reducible refine Up.setCell ?_ (by (try simp) <;> omega) _ | with_reducible assumption | with_reducible refine Up.trans ?_ (by assumption)))))).mono ?_
      rw [HAK.out]
      rintro e w7 ⟨P1, p1, P2, p2, rfl, s9, s10, u7⟩
      obtain ⟨va, va'⟩ := u7.at_ w.heap.size (by omega)
      have hz7 := u7.size
      have q7 : w.heap.size < w7.heap.size := by omega
      have S9 := Lib.hid s9
      have S10 := Lib.hid s10
      have UC7 : Hid (Up wc w7) := Lib.hid (UC5.out.trans (by (repeat (first | with_reducible exact Up.refl _ | with_reducible refine Up.alloc ?_ _ | with_reducible refine Up.drew ?_ | with_reducible refine Up.drewN ?_ _ | with_reducible refine Up.setCell ?_ (by (try simp) <;> omega) _ | with_reducible assumption | with_reducible refine Up.trans ?_ (by assumption)))))
      have UW7 : Hid (Up w w7) := Lib.hid (UW5.out.trans (by (repeat (first | with_reducible exact Up.refl _ | with_reducible refine Up.alloc ?_ _ | with_reducible refine Up.drew ?_ | with_reducible refine Up.drewN ?_ _ | with_reducible refine Up.setCell ?_ (by (try simp) <;> omega) _ | with_reducible assumption | with_reducible refine Up.trans ?_ (by assumption)))))
      clear s9 s10 u7
      unfold actV
      clear HF HMK HFI HSAM HNA HS7 HAK
      go_wp2_with fail
      go_region_with (first | (go_at_call 30; refine (HPL.out _ (Up.drew (UC7.out.alloc _))).mono ?_; rintro e w8 ⟨⟨X1, x1, X2, x2, rfl, s11, s12⟩, u8⟩; obtain ⟨la, la'⟩ := u8.at_ w.heap.size (by (try simp) <;> omega); obtain ⟨lb, lb'⟩ := u8.at_ w7.heap.size (by simp); have hz8 := u8.size; (try simp at hz8); have q8 : w.heap.size < w8.heap.size := (by omega); have q9 : w7.heap.size < w8.heap.size := (by omega); have S11 := Lib.hid s11; have S12 := Lib.hid s12; have U78 := Lib.hid (show Up w7 w8 from (((Up.refl w7).alloc _).drew).trans u8); clear s11 s12 u8; unfold actV) | (go_at_call 22; refine (rsame_is (a := plainOf a) (b := plainOf a) (S9.out.up U78.out) (S10.out.up U78.out) S11.out S12.out).mono ?_; rintro e w9 ⟨rfl, u9⟩; rw [same_refl]; have U89 := Lib.hid u9; clear u9))
      all_goals
        go_wp2
        go_ret
        exact ⟨rfl, (UW7.out.trans U78.out).trans U89.out⟩
end Go.Proofs.YtfambgigdhkiaaaDoor
