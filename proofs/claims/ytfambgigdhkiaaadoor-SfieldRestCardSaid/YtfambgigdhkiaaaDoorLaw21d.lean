/-
  The walk of SfieldRest: a field whose length is 0 takes all that is left. Condition: write's table lies as the row lists it.
-/
import Derived.Test.YtfambgigdhkiaaaDoorRestP
import Derived.Test.YtfambgigdhkiaaaDoorRFew
import Derived.Deep.CutBlock
import Derived.Deep.DeepCutAuto
namespace Go.Proofs.YtfambgigdhkiaaaDoor
open Go.RowKit
set_option linter.unusedVariables false
set_option linter.unusedSimpArgs false

/-- an act as it comes in -/
abbrev ActT := Int × Int × Int × Bool × Int × Option Addr × Nat × Nat × List Int × Option Addr × Nat × Nat × List Int
def encT (x : ActT) : List Value := [.int .i64 x.1, .int .i64 x.2.1, .int .i64 x.2.2.1, .bool x.2.2.2.1, .int .u8 x.2.2.2.2.1, .slice x.2.2.2.2.2.1 x.2.2.2.2.2.2.1 x.2.2.2.2.2.2.2.1, .slice x.2.2.2.2.2.2.2.2.2.1 x.2.2.2.2.2.2.2.2.2.2.1 x.2.2.2.2.2.2.2.2.2.2.2.1]
def okT (w : World) (x : ActT) : Prop := -9223372036854775808 ≤ x.1 ∧ x.1 ≤ 9223372036854775807 ∧ -9223372036854775808 ≤ x.2.1 ∧ x.2.1 ≤ 9223372036854775807 ∧ -9223372036854775808 ≤ x.2.2.1 ∧ x.2.2.1 ≤ 9223372036854775807 ∧ 0 ≤ x.2.2.2.2.1 ∧ x.2.2.2.2.1 ≤ 255 ∧
  x.2.2.2.2.2.2.2.2.1.length = x.2.2.2.2.2.2.1 ∧ x.2.2.2.2.2.2.1 ≤ x.2.2.2.2.2.2.2.1 ∧ x.2.2.2.2.2.2.2.1 ≤ maxLen ∧ (∀ z ∈ x.2.2.2.2.2.2.2.2.1, 0 ≤ z ∧ z ≤ 255) ∧ Reads w w.heap.size 1 x.2.2.2.2.2.1 x.2.2.2.2.2.2.1 (x.2.2.2.2.2.2.2.2.1.map (Value.int .u8)) ∧
  x.2.2.2.2.2.2.2.2.2.2.2.2.length = x.2.2.2.2.2.2.2.2.2.2.1 ∧ x.2.2.2.2.2.2.2.2.2.2.1 ≤ x.2.2.2.2.2.2.2.2.2.2.2.1 ∧ x.2.2.2.2.2.2.2.2.2.2.2.1 ≤ maxLen ∧ (∀ z ∈ x.2.2.2.2.2.2.2.2.2.2.2.2, 0 ≤ z ∧ z ≤ 255) ∧ Reads w w.heap.size 1 x.2.2.2.2.2.2.2.2.2.1 x.2.2.2.2.2.2.2.2.2.2.1 (x.2.2.2.2.2.2.2.2.2.2.2.2.map (Value.int .u8))
theorem ne_ra2 : 26 ≠ 5 := by decide
/-- an act of the list, cut short -/
theorem few_t {k cm m rq : Int} {al : Bool} {A1 A2 : Option Addr} {n1 n2 c1 c2 : Nat} {l1 l2 : List Int} {w : World} (h : okT w (k, cm, m, al, rq, A1, n1, c1, l1, A2, n2, c2, l2)) {w' : World} (hu : Up w w') :
    SmallA ⟨k, cm, m, al, rq, l1.take 20, l2.take 300⟩ ∧ Calls Tryd.prog 9 #[.agg #[.int .i64 k, .int .i64 cm, .int .i64 m, .bool al, .int .u8 rq, .slice A1 n1 c1, .slice A2 n2 c2]] w' fun e w2 => ∃ A3 c3 A4 c4, e = .returned (.agg #[.int .i64 k, .int .i64 cm, .int .i64 m, .bool al, .int .u8 rq, .slice A3 (l1.take 20).length c3, .slice A4 (l2.take 300).length c4]) ∧ Sl w'.heap.size w2 A3 (l1.take 20).length c3 (l1.take 20) ∧ Sl w'.heap.size w2 A4 (l2.take 300).length c4 (l2.take 300) ∧ Up w' w2 := by
  unfold okT at h
  simp only at h
  obtain ⟨_, _, _, _, _, _, q0, q1, h1, h2, h3, h4, h5, g1, g2, g3, g4, g5⟩ := h
  refine ⟨⟨by simp; omega, by simp; omega, ⟨q0, q1⟩⟩, ?_⟩
  exact few_is (Reads.up (show Reads w w.heap.size 1 A1 n1 (bs l1) from h5) hu) h4 h2 h3 (Reads.up (show Reads w w.heap.size 1 A2 n2 (bs l2) from g5) hu) g4 g2 g3
set_option maxRecDepth 100000 in
set_option maxHeartbeats 6400000 in
theorem law_rest (A : Option Addr) (n c : Nat) (L : List ActT) (id : Int) (Ap : Option Addr) (np cp : Nat) (P : List Int) (w : World) (hl : L.length = n) (hn : n ≤ c) (hc : c ≤ maxLen) (hw : ∀ x ∈ L, okT w x) (hr : Reads w w.heap.size 7 A n (L.flatMap encT)) (i0 : 0 ≤ id) (i1 : id ≤ 255)
    (hlp : P.length = np) (hnp : np ≤ cp) (hcp : cp ≤ maxLen) (hwp : ∀ x ∈ P, 0 ≤ x ∧ x ≤ 255) (hrp : Reads w w.heap.size 1 Ap np (P.map (Value.int .u8))) (hT : TabW w) :
    Calls Tryd.prog 3 #[.slice A n c, .int .u8 id, .slice Ap np cp] w fun e w' => e = .returned (.bool true) ∧ Up w w' := by
  obtain ⟨j0, hi, hz0, hz1, hz2⟩ := info_parts info_u8
  obtain ⟨k0, ki, kz0, kz1, kz2⟩ := info_parts info_ra
  have hm63 : n ≤ 9223372036854775807 := by simp [maxLen] at hc; omega
  have HT := Lib.hid hT
  have HW := Lib.hid hw
  have HR := Lib.hid hr
  have HWP := Lib.hid hwp
  have HRP : Hid (Reads w w.heap.size 1 Ap np (bs P)) := Lib.hid hrp
  have HLN := Lib.hid hl
  clear hT hw hr hwp hrp hl hlp
  go_enter Tryd.func3, Tryd.ntmps3
  go_wp2_with fail
  refine (awake21 _ HT.out).mono ?_
  rintro e w1 ⟨rfl, hu1⟩
  have HU1 := Lib.hid hu1
  clear hu1
  go_wp2_with fail
  go_loopw [7, 21] (fun v q wr => ∃ (j : Nat) (A1 : Option Addr) (c1 m1 : Nat) (ys : List EA), q = .int .i64 (j : Int) ∧ v = .slice A1 m1 c1 ∧ ys.length = m1 ∧ m1 ≤ 4 ∧ m1 ≤ j ∧ j ≤ n ∧ FL 26 7 EA.cells EA.inn w1.heap.size wr A1 c1 ys ∧ (∀ y ∈ ys.map EA.a, SmallA y) ∧ Up w1 wr) (fun _ q _ => n - (intOf q).toNat)
  case atStart => exact ⟨0, none, 0, 0, [], rfl, rfl, rfl, by omega, by omega, Nat.zero_le _, FL.nil, by simp, Up.refl _⟩
  case round =>
    obtain ⟨j, A1, c1, m1, ys, rfl, rfl, hm1, hm4, hmj, hj, hfl, hsm, hup⟩ := hrel
    have HM1 := Lib.hid hm1
    have HFL := Lib.hid hfl
    have HSM := Lib.hid hsm
    have HUP := Lib.hid hup
    have hq1 : m1 + 1 ≤ maxLen := by simp [maxLen]; omega
    have hq2 : (m1 + 1) * 80 ≤ 140737488355328 := by omega
    clear hm1 hfl hsm hup
    by_cases hlt : j < n
    · obtain ⟨x, hx⟩ : ∃ x, L[j]? = some x := ⟨L[j]'(by rw [HLN.out]; exact hlt), List.getElem?_eq_getElem (by rw [HLN.out]; exact hlt)⟩
      obtain ⟨b, off, rfl, hb⟩ := HR.out.form (by omega)
      have hra := row_at (k := 7) (enc := encT) (fun _ => rfl) HR.out hx (by omega)
      have hox := HW.out x (List.mem_of_getElem? hx)
      have hga := ((HU1.out.trans HUP.out).at_ b hb).1
      have hbw : b < wr.heap.size := by have := (HU1.out.trans HUP.out).size; omega
      obtain ⟨k, cm, m, al, rq, B1, n1, d1, l1, B2, n2, d2, l2⟩ := x
      have e0' : wr.cell? ⟨b, off + j * 7, none⟩ = some (.int .i64 k) := (hga _).trans (hra 0 _ rfl)
      have e1' : wr.cell? ⟨b, off + j * 7 + 1, none⟩ = some (.int .i64 cm) := (hga _).trans (hra 1 _ rfl)
      have e2' : wr.cell? ⟨b, off + j * 7 + 2, none⟩ = some (.int .i64 m) := (hga _).trans (hra 2 _ rfl)
      have e3' : wr.cell? ⟨b, off + j * 7 + 3, none⟩ = some (.bool al) := (hga _).trans (hra 3 _ rfl)
      have e4' : wr.cell? ⟨b, off + j * 7 + 4, none⟩ = some (.int .u8 rq) := (hga _).trans (hra 4 _ rfl)
      have e5' : wr.cell? ⟨b, off + j * 7 + 5, none⟩ = some (.slice B1 n1 d1) := (hga _).trans (hra 5 _ rfl)
      have e6' : wr.cell? ⟨b, off + j * 7 + 6, none⟩ = some (.slice B2 n2 d2) := (hga _).trans (hra 6 _ rfl)
      clear hra hga hx
      by_cases h4 : j < 4
      · obtain ⟨hsma, hfew⟩ := few_t hox (w' := wr.alloc (.cells #[.int .i64 k, .int .i64 cm, .int .i64 m, .bool al, .int .u8 rq, .slice B1 n1 d1, .slice B2 n2 d2] 26)) ((HU1.out.trans HUP.out).alloc _)
        obtain ⟨x1, hx1⟩ : ∃ x1, l1.take 20 = x1 := ⟨_, rfl⟩
        obtain ⟨x2, hx2⟩ : ∃ x2, l2.take 300 = x2 := ⟨_, rfl⟩
        rw [hx1, hx2] at hsma hfew
        have HSA := Lib.hid hsma
        clear hsma hox hx1 hx2
        have hown := Lib.hid (show wr.ownsRow w1.heap.size 26 7 (.slice A1 m1 c1) m1 (ys.flatMap EA.cells) from by have := HFL.out.own; rw [HM1.out] at this; exact this)
        have hwr : w1.heap.size ≤ wr.heap.size := HUP.out.size
        go_wp2_with (first | (go_at_call 9; refine hfew.mono ?_; rintro e w3 ⟨A3, c3, A4, c4, rfl, s3, s4, u3⟩; have U3 := Lib.hid (show Up wr w3 from ((Up.refl wr).alloc _).trans u3); have hz3 := U3.out.size; have S3 := Lib.hid s3; have S4 := Lib.hid s4; clear s3 s4 u3) | (at_builtin; refine wpList_app _ rfl (.tmp 28) (.tmp 31) 22 rfl w1.heap.size 26 k0 _ 7 80 Tryd.underlying22 ki kz0 kz1 kz2 rfl (by decide) A1 m1 c1 (ys.flatMap EA.cells) rfl (own_up hown.out (U3.out.alloc _)) (w3.heap.size + 1) (some ⟨w3.heap.size, 0, none⟩) 1 1 [.int .i64 k, .int .i64 cm, .int .i64 m, .bool al, .int .u8 rq, .slice A3 x1.length c3, .slice A4 x2.length c4] rfl (reads_at w3 w3.heap.size 7 1 _ _ rfl rfl) (by simp [Value.oneCell']) hq1 hq2 (by simp; omega) ?_; intro A5 c5 w6 hown4 hg4 hle4 hmx4 hbl4; have HO4 := Lib.hid hown4; have HG4 := Lib.hid hg4; have HB4 := Lib.hid hbl4; clear hown4 hg4 hbl4))
        go_roundw
        case rel =>
          have hm := HM1.out
          subst hm
          have hup5 : Up wr (w3.alloc (.cells #[.int .i64 k, .int .i64 cm, .int .i64 m, .bool al, .int .u8 rq, .slice A3 x1.length c3, .slice A4 x2.length c4] 26)) := U3.out.alloc _
          refine ⟨j + 1, A5, c5, ys.length + 1, ys ++ [⟨⟨k, cm, m, al, rq, x1, x2⟩, A3, c3, A4, c4⟩], by first | rfl | go_num, rfl, by simp, by omega, by omega, by omega, ?_, ?_, (HUP.out.trans hup5).past HB4.out⟩
          · refine FL.push (HFL.out.up hup5) ne_ra2 (fun s hs => ?_) HG4.out HO4.out hle4 hmx4
            rw [show EA.inn ⟨⟨k, cm, m, al, rq, x1, x2⟩, A3, c3, A4, c4⟩ = [(A3, c3, x1), (A4, c4, x2)] from rfl] at hs
            simp only [List.mem_cons, List.mem_nil_iff, or_false] at hs
            rcases hs with rfl | rfl
            · exact (S3.out.up ((Up.refl w3).alloc _)).low (by simp; omega)
            · exact (S4.out.up ((Up.refl w3).alloc _)).low (by simp; omega)
          · intro y hy
            rw [List.map_append] at hy
            rcases List.mem_append.1 hy with hy | hy
            · exact HSM.out y hy
            · simp only [List.map_cons, List.map_nil, List.mem_singleton] at hy
              rw [hy]
              exact HSA.out
        case measure => simp [intOf]; omega
      · clear hox
        go_wp2_with fail
        go_roundw
        case rel => exact ⟨j + 1, A1, c1, m1, ys, by first | rfl | go_num, rfl, HM1.out, hm4, by omega, by omega, HFL.out.up ((Up.refl wr).alloc _), HSM.out, HUP.out.alloc _⟩
        case measure => simp [intOf]; omega
    · have hln : ys.length ≤ 6 := by rw [HM1.out]; omega
      obtain ⟨l, hlE⟩ : ∃ l, ys.map EA.a = l := ⟨_, rfl⟩
      have hll : l.length = m1 := by rw [← hlE, List.length_map, HM1.out]
      have hrec := rrec_is HFL.out HSM.out hln
      have hsml := HSM.out
      rw [hlE] at hrec hsml
      rw [HM1.out] at hrec
      have hfb := fbs_len (l := l) hsml
      have HSL := Lib.hid hsml
      have HLL := Lib.hid hll
      obtain ⟨R, hR⟩ : ∃ R, recOf l = R := ⟨_, rfl⟩
      rw [hR] at hrec
      have HRR := Lib.hid hR
      clear hR hsml hlE
      obtain ⟨F, er⟩ := R
      have hl6 : l.length ≤ 6 := by rw [hll]; omega
      have hm1l : (m1 : Int) = (l.length : Int) := by rw [hll]
      clear hll
      go_wp2_with fail
      refine hrec.mono ?_
      rintro e w3 ⟨Af, cf, rfl, sf, u3⟩
      have U3 := Lib.hid (HUP.out.trans u3)
      have HSF := Lib.hid sf
      clear sf u3
      rcases Bool.eq_false_or_eq_true (er != 0) with e0 | e0
      · go_wp2_with fail
        go_ret
        exact ⟨rfl, HU1.out.trans U3.out⟩
      obtain ⟨fbs, hfbs⟩ : ∃ fbs, l.flatMap fbOf = fbs := ⟨_, rfl⟩
      have her : er = 0 := by simpa using e0
      have hz := (rec_zero (l := l) (by rw [HRR.out]; exact her)).2
      rw [HRR.out, hfbs] at hz
      rw [hfbs] at hfb
      have hF : F = 243 :: fbs := congrArg Prod.fst hz
      have hFl : F.length = fbs.length + 1 := by rw [hF]; rfl
      have sf := HSF.out
      simp only at sf
      rw [hFl, hF] at sf
      obtain ⟨bf, of, rfl, hbf⟩ := sf.form (by omega)
      have SF := Lib.hid sf
      have HFB := Lib.hid hfbs
      have HBL : Hid (BL fbs) := Lib.hid (fun x hx => sf.bytes x (List.mem_cons_of_mem _ hx))
      have hcf := sf.cap
      have hfm := Lib.hid (fldsM_zero HSL.out hl6 id)
      have hfo := Lib.hid (fun (a b : Int) (D : List Int) => fldsM_one (id := id) (a := a) (b := b) (D := D) HSL.out hl6)
      rw [hfbs] at hfm hfo
      simp only
      rw [hFl]
      subst her
      clear hz hF hFl sf hfbs HSF
      go_wp2_with fail
      refine (cut_sl (HRP.out.up (HU1.out.trans U3.out)) HWP.out hnp hcp 100 (by omega)).mono ?_
      rintro e w4 ⟨A4, c4, rfl, s4, -, u4⟩
      obtain ⟨p, hp⟩ : ∃ p, P.take 100 = p := ⟨_, rfl⟩
      have hpl : p.length ≤ 100 := by rw [← hp, List.length_take]; omega
      rw [hp] at s4 ⊢
      have S4 := Lib.hid s4
      have U4 := Lib.hid u4
      clear s4 u4 hp
      have hd0 : ((3 : Int) + (p.length : Int)).tdiv 256 = 0 := by rw [Int.tdiv_eq_ediv_of_nonneg (by omega)]; omega
      have hd1 : ((3 : Int) + (p.length : Int)).tmod 256 = 3 + (p.length : Int) := by rw [Int.tmod_eq_emod_of_nonneg (by omega)]; omega
      go_upto_region 15 with (fail)
      go_cut [13, 14] from 46 to 57 (fun s1 s2 wx => ∃ A8 c8 xs, s1 = .slice A8 (l.length + 1) c8 ∧ s2 = .int .i64 0 ∧ FL 43 2 RF.cells RF.inn w4.heap.size wx A8 c8 xs ∧ xs.map RF.bare = restF l id p ∧ Up w4 wx)
      case first =>
        obtain ⟨A9, hA9, hcut⟩ : ∃ A9, (if cf = 1 then (some ⟨bf, of, none⟩ : Option Addr) else some ⟨bf, of + 1, none⟩) = A9 ∧ Sl 0 w4 A9 (fbs.length + 1 - 1) (cf - 1) fbs := by
          have := (SF.out.up U4.out).cut (k := 1) (by omega)
          exact ⟨_, rfl, by simpa [Addr.add] using (this.low (Nat.zero_le _))⟩
        have HCT := Lib.hid hcut
        have q1 : fbs.length + 3 ≤ maxLen := by simp [maxLen]; omega
        have q2 : fbs.length + 3 + p.length ≤ maxLen := by simp [maxLen]; omega
        have hc3 : (cf = 1 ∧ A9 = some ⟨bf, of, none⟩) ∨ (¬ cf = 1 ∧ A9 = some ⟨bf, of + 1, none⟩) := by
          by_cases h : cf = 1
          · exact .inl ⟨h, by rw [← hA9, if_pos h]⟩
          · exact .inr ⟨h, by rw [← hA9, if_neg h]⟩
        clear hcut hA9 hcf
        rcases hc3 with ⟨hc3, rfl⟩ | ⟨hc3, rfl⟩
        subst hc3
        all_goals
          go_wp2_with (first
            | (go_at_call 13; refine (copy_any _ _ _ fbs _ HCT.out.rd (by omega)).mono ?_; rintro e w5 ⟨AA, ca, rfl, hownA, hna, hca, uA⟩; have HOA := Lib.hid hownA; have UA := Lib.hid uA; clear hownA uA)
            | (at_builtin; refine wpList_app _ rfl (.tmp 49) (.tmp 51) 23 rfl w4.heap.size 5 j0 _ 1 1 Tryd.underlying23 hi hz0 hz1 hz2 rfl (by decide) AA fbs.length ca (bs fbs) rfl (own_up HOA.out ((Up.refl w5).alloc _)) (w5.heap.size + 1) (some ⟨w5.heap.size, 0, none⟩) 3 3 [.int .u8 0, .int .u8 0, .int .u8 id] rfl (reads_at w5 w5.heap.size 1 3 _ _ rfl rfl) (by simp [Value.oneCell']) q1 (by omega) (by have := UA.out.size; simp; omega) ?_; intro AB cb w6 hownB hgB hleB hmxB hblB; have HOB := Lib.hid hownB; have UB := Lib.hid (show Up w4 w6 from (UA.out.alloc _).past hblB); clear hownB hgB hblB)
            | (at_builtin; refine wpList_app _ rfl (.tmp 52) (.tmp 53) 23 rfl w4.heap.size 5 j0 _ 1 1 Tryd.underlying23 hi hz0 hz1 hz2 rfl (by decide) AB (fbs.length + 3) cb (bs fbs ++ [.int .u8 0, .int .u8 0, .int .u8 id]) rfl HOB.out _ A4 p.length c4 (bs p) rfl (S4.out.up UB.out).rd (one_u8 p) q2 (by omega) UB.out.size ?_; intro AC cc w7 hownC hgC hleC hmxC hblC; have HOC := Lib.hid hownC; have UC := Lib.hid (UB.out.past hblC); clear hownC hgC hblC)
            | (go_at_call 12; refine (lfields_is (most := 100) (l := fbs ++ ([0, 0, id] ++ p)) (B := w4.heap.size) (Sl.of_own (show w7.ownsRow w4.heap.size 5 1 (.slice AC (fbs.length + 3 + p.length) cc) (fbs.length + 3 + p.length) (bs (fbs ++ ([0, 0, id] ++ p))) from by have := HOC.out; rw [← List.append_assoc, bs_app, bs_app]; exact this) hleC hmxC (by omega) (HBL.out.app ((BL.cons (by omega) (BL.cons (by omega) (BL.cons ⟨i0, i1⟩ BL.nil))).app S4.out.bytes))) (by omega) (by omega)).mono ?_; rintro e w8 ⟨A8, c8, xs, rfl, hfl8, hmap8, u8⟩; rw [show fldsM (fbs ++ ([0, 0, id] ++ p)) 100 = (restF l id p, 0) from hfm.out p] at hmap8; rw [show fldsM (fbs ++ ([0, 0, id] ++ p)) 100 = (restF l id p, 0) from hfm.out p]; have hx8 : xs.length = l.length + 1 := (by have := congrArg List.length hmap8; rw [List.length_map, restF_len] at this; exact this); have HFL8 := Lib.hid hfl8; have HM8 := Lib.hid hmap8; have U8 := Lib.hid (UC.out.trans u8); rw [hx8]; clear hfl8 hmap8 u8 hx8))
          go_meet
          exact ⟨A8, c8, xs, rfl, rfl, HFL8.out.low UC.out.size, HM8.out, U8.out⟩
      case rest =>
      obtain ⟨A8, c8, xs, rfl, rfl, hfl8, hmap8, u8⟩ := hcut
      have HF8 := Lib.hid hfl8
      have HM8 := Lib.hid hmap8
      have UW8 := Lib.hid u8
      clear hfl8 hmap8 u8
      go_upto_region 16 with (fail)
      go_cut [15, 16] from 58 to 75 (fun s1 s2 wx => ∃ A8 c8 xs, s1 = .slice A8 (l.length + 1) c8 ∧ s2 = .int .i64 0 ∧ FL 43 2 RF.cells RF.inn wc.heap.size wx A8 c8 xs ∧ xs.map RF.bare = restF l id p ∧ Up wc wx)
      case first =>
        obtain ⟨A9, hA9, hcut⟩ : ∃ A9, (if cf = 1 then (some ⟨bf, of, none⟩ : Option Addr) else some ⟨bf, of + 1, none⟩) = A9 ∧ Sl 0 wc A9 (fbs.length + 1 - 1) (cf - 1) fbs := by
          have := (SF.out.up (U4.out.trans UW8.out)).cut (k := 1) (by omega)
          exact ⟨_, rfl, by simpa [Addr.add] using (this.low (Nat.zero_le _))⟩
        have HCT := Lib.hid hcut
        have q1 : fbs.length + 3 ≤ maxLen := by simp [maxLen]; omega
        have q2 : fbs.length + 3 + p.length ≤ maxLen := by simp [maxLen]; omega
        have hc3 : (cf = 1 ∧ A9 = some ⟨bf, of, none⟩) ∨ (¬ cf = 1 ∧ A9 = some ⟨bf, of + 1, none⟩) := by
          by_cases h : cf = 1
          · exact .inl ⟨h, by rw [← hA9, if_pos h]⟩
          · exact .inr ⟨h, by rw [← hA9, if_neg h]⟩
        clear hcut hA9 hcf
        rcases hc3 with ⟨hc3, rfl⟩ | ⟨hc3, rfl⟩
        subst hc3
        all_goals
          go_wp2_with (first
            | (go_at_call 13; refine (copy_any _ _ _ fbs _ HCT.out.rd (by omega)).mono ?_; rintro e w5 ⟨AA, ca, rfl, hownA, hna, hca, uA⟩; have HOA := Lib.hid hownA; have UA := Lib.hid uA; clear hownA uA)
            | (at_builtin; refine wpList_app _ rfl (.tmp 61) (.tmp 69) 23 rfl wc.heap.size 5 j0 _ 1 1 Tryd.underlying23 hi hz0 hz1 hz2 rfl (by decide) AA fbs.length ca (bs fbs) rfl (own_up HOA.out ((Up.refl w5).alloc _)) (w5.heap.size + 1) (some ⟨w5.heap.size, 0, none⟩) 3 3 [.int .u8 0, .int .u8 (3 + (p.length : Int)), .int .u8 id] rfl (reads_at w5 w5.heap.size 1 3 _ _ rfl rfl) (by simp [Value.oneCell']) q1 (by omega) (by have := UA.out.size; simp; omega) ?_; intro AB cb w6 hownB hgB hleB hmxB hblB; have HOB := Lib.hid hownB; have UB := Lib.hid (show Up wc w6 from (UA.out.alloc _).past hblB); clear hownB hgB hblB)
            | (at_builtin; refine wpList_app _ rfl (.tmp 70) (.tmp 71) 23 rfl wc.heap.size 5 j0 _ 1 1 Tryd.underlying23 hi hz0 hz1 hz2 rfl (by decide) AB (fbs.length + 3) cb (bs fbs ++ [.int .u8 0, .int .u8 (3 + (p.length : Int)), .int .u8 id]) rfl HOB.out _ A4 p.length c4 (bs p) rfl (S4.out.up (UW8.out.trans UB.out)).rd (one_u8 p) q2 (by omega) UB.out.size ?_; intro AC cc w7 hownC hgC hleC hmxC hblC; have HOC := Lib.hid hownC; have UC := Lib.hid (UB.out.past hblC); clear hownC hgC hblC)
            | (go_at_call 12; refine (lfields_is (most := 100) (l := fbs ++ ([0, (3 + (p.length : Int)), id] ++ p)) (B := wc.heap.size) (Sl.of_own (show w7.ownsRow wc.heap.size 5 1 (.slice AC (fbs.length + 3 + p.length) cc) (fbs.length + 3 + p.length) (bs (fbs ++ ([0, (3 + (p.length : Int)), id] ++ p))) from by have := HOC.out; rw [← List.append_assoc, bs_app, bs_app]; exact this) hleC hmxC (by omega) (HBL.out.app ((BL.cons (by omega) (BL.cons (by omega) (BL.cons ⟨i0, i1⟩ BL.nil))).app S4.out.bytes))) (by omega) (by omega)).mono ?_; rintro e w8 ⟨A8, c8, xs, rfl, hfl8, hmap8, u8⟩; rw [show fldsM (fbs ++ ([0, 3 + (p.length : Int), id] ++ p)) 100 = (restF l id p, 0) from hfo.out 0 (3 + (p.length : Int)) p (by omega) (by omega) (by omega)] at hmap8; rw [show fldsM (fbs ++ ([0, 3 + (p.length : Int), id] ++ p)) 100 = (restF l id p, 0) from hfo.out 0 (3 + (p.length : Int)) p (by omega) (by omega) (by omega)]; have hx8 : xs.length = l.length + 1 := (by have := congrArg List.length hmap8; rw [List.length_map, restF_len] at this; exact this); have HFL8 := Lib.hid hfl8; have HM8 := Lib.hid hmap8; have U8 := Lib.hid (UC.out.trans u8); rw [hx8]; clear hfl8 hmap8 u8 hx8))
          go_meet
          exact ⟨A8, c8, xs, rfl, rfl, HFL8.out.low UC.out.size, HM8.out, U8.out⟩
      case rest =>
      obtain ⟨B8, d8, zs, rfl, rfl, hflB, hmapB, uB⟩ := hcut
      have hx1 : xs.length = l.length + 1 := by have := congrArg List.length HM8.out; rw [List.length_map, restF_len] at this; exact this
      have hx2 : zs.length = l.length + 1 := by have := congrArg List.length hmapB; rw [List.length_map, restF_len] at this; exact this
      have hsame := lsame_is (HF8.out.up uB) hflB hx1 hx2
      rw [decide_eq_true (show xs.map RF.bare = zs.map RF.bare by rw [HM8.out, hmapB])] at hsame
      have UF := Lib.hid ((((HU1.out.trans U3.out).trans U4.out).trans UW8.out).trans uB)
      have hll := HLL.out
      clear hx1 hx2 hflB hmapB uB hm1l
      subst hll
      go_wp2_with (go_at_call 14; refine hsame.mono ?_; rintro e w9 ⟨rfl, u9⟩)
      go_ret
      exact ⟨rfl, UF.out.trans u9⟩
end Go.Proofs.YtfambgigdhkiaaaDoor
