/-
  The walk of SfieldRecords: the loop that lays both lists. Condition: write's table lies as the row lists it.
-/
import Derived.Test.YtfambgigdhkiaaaDoorRecM
import Derived.Test.YtfambgigdhkiaaaDoorSRec
namespace Go.Proofs.YtfambgigdhkiaaaDoor
open Go.RowKit
set_option linter.unusedVariables false
set_option linter.unusedSimpArgs false

theorem few_e {a : PAct} (h : SmallA a) {B1 B2 c1 c2 : Nat} {A1 A2 : Option Addr} {w : World} (h1 : Sl B1 w A1 a.codes.length c1 a.codes) (h2 : Sl B2 w A2 a.rec_.length c2 a.rec_) :
    Calls Tryd.prog 9 #[.agg #[.int .i64 a.kind, .int .i64 a.cmd, .int .i64 a.mode, .bool a.alt, .int .u8 a.req, .slice A1 a.codes.length c1, .slice A2 a.rec_.length c2]] w fun e w2 => ∃ A3 c3 A4 c4, e = .returned (.agg #[.int .i64 a.kind, .int .i64 a.cmd, .int .i64 a.mode, .bool a.alt, .int .u8 a.req, .slice A3 a.codes.length c3, .slice A4 a.rec_.length c4]) ∧ Sl w.heap.size w2 A3 a.codes.length c3 a.codes ∧ Sl w.heap.size w2 A4 a.rec_.length c4 a.rec_ ∧ Up w w2 := by
  have e1 : a.codes.take 20 = a.codes := List.take_of_length_le h.codes
  have e2 : a.rec_.take 300 = a.rec_ := List.take_of_length_le h.rec_
  refine (few_is h1.rd h1.bytes h1.cap h1.mx h2.rd h2.bytes h2.cap h2.mx).mono ?_
  rintro e w2 ⟨A3, c3, A4, c4, rfl, s3, s4, u⟩
  rw [e1] at s3
  rw [e2] at s4
  rw [e1, e2]
  exact ⟨A3, c3, A4, c4, rfl, s3, s4, u⟩
set_option maxRecDepth 100000 in
set_option maxHeartbeats 6400000 in
theorem law_records (A : Option Addr) (n c : Nat) (L : List ActT) (w : World) (hl : L.length = n) (hn : n ≤ c) (hc : c ≤ maxLen) (hw : ∀ x ∈ L, okT w x) (hr : Reads w w.heap.size 7 A n (L.flatMap encT)) (hT : TabW w) :
    Calls Tryd.prog 7 #[.slice A n c] w fun e w' => e = .returned (.bool true) ∧ Up w w' := by
  obtain ⟨j0, ji, jz0, jz1, jz2⟩ := info_parts info_sa
  obtain ⟨k0, ki, kz0, kz1, kz2⟩ := info_parts info_ra
  have hm63 : n ≤ 9223372036854775807 := by simp [maxLen] at hc; omega
  have HT := Lib.hid hT
  have HW := Lib.hid hw
  have HR := Lib.hid hr
  have HLN := Lib.hid hl
  clear hT hw hr hl
  go_enter Tryd.func7, Tryd.ntmps7
  go_wp2_with fail
  refine (awake21 _ HT.out).mono ?_
  rintro e w1 ⟨rfl, hu1⟩
  have HU1 := Lib.hid hu1
  clear hu1
  go_wp2_with fail
  go_loopw [3, 4, 18] (fun u v q wr => ∃ (j : Nat) (A1 A2 : Option Addr) (c1 c2 m1 : Nat) (xs ys : List EA), q = .int .i64 (j : Int) ∧ u = .slice A1 m1 c1 ∧ v = .slice A2 m1 c2 ∧ xs.length = m1 ∧ ys.length = m1 ∧ m1 ≤ 6 ∧ m1 ≤ j ∧ j ≤ n ∧ xs.map EA.a = ys.map EA.a ∧ FL 50 7 EA.cells EA.inn w1.heap.size wr A1 c1 xs ∧ FL 26 7 EA.cells EA.inn w1.heap.size wr A2 c2 ys ∧ (∀ y ∈ ys.map EA.a, SmallA y) ∧ Up w1 wr) (fun _ _ q _ => n - (intOf q).toNat)
  case atStart => exact ⟨0, none, none, 0, 0, 0, [], [], rfl, rfl, rfl, rfl, rfl, by omega, by omega, Nat.zero_le _, rfl, FL.nil, FL.nil, by simp, Up.refl _⟩
  case round =>
    obtain ⟨j, A1, A2, c1, c2, m1, xs, ys, rfl, rfl, rfl, hm1, hm2, hm6, hmj, hj, hxy, hfx, hfl, hsm, hup⟩ := hrel
    have HM1 := Lib.hid hm1
    have HM2 := Lib.hid hm2
    have HXY := Lib.hid hxy
    have HFX := Lib.hid hfx
    have HFL := Lib.hid hfl
    have HSM := Lib.hid hsm
    have HUP := Lib.hid hup
    have hq1 : m1 + 1 ≤ maxLen := by simp [maxLen]; omega
    have hq2 : (m1 + 1) * 80 ≤ 140737488355328 := by omega
    clear hm1 hm2 hfl hfx hxy hsm hup
    by_cases hlt : j < n
    · obtain ⟨x, hx⟩ : ∃ x, L[j]? = some x := ⟨L[j]'(by rw [HLN.out]; exact hlt), List.getElem?_eq_getElem (by rw [HLN.out]; exact hlt)⟩
      obtain ⟨b, off, rfl, hb⟩ := HR.out.form (by omega)
      have hra := row_at (k := 7) (enc := encT) (fun _ => rfl) HR.out hx (by omega)
      have hox := HW.out x (List.mem_of_getElem? hx)
      have hga := ((HU1.out.trans HUP.out).at_ b hb).1
      have hbw : b < wr.heap.size := by have := (HU1.out.trans HUP.out).size; omega
      obtain ⟨k, cm, m, al, rq, B1, n1, d1, l1, B2, n2, d2, l2⟩ := x
      have e0' : wr.cell? ⟨b, off + j * 7, none⟩ = some (.int .i64 k) := (hga _).trans (hra 0 _ rfl)
      have e1' : wr.cell? ⟨b, off + j * 7 + 1, none⟩ = some (.int .i64 cm) := (hga _).trans (hra 1 _ rfl)
      have e2' : wr.cell? ⟨b, off + j * 7 + 2, none⟩ = some (.int .i64 m) := (hga _).trans (hra 2 _ rfl)
      have e3' : wr.cell? ⟨b, off + j * 7 + 3, none⟩ = some (.bool al) := (hga _).trans (hra 3 _ rfl)
      have e4' : wr.cell? ⟨b, off + j * 7 + 4, none⟩ = some (.int .u8 rq) := (hga _).trans (hra 4 _ rfl)
      have e5' : wr.cell? ⟨b, off + j * 7 + 5, none⟩ = some (.slice B1 n1 d1) := (hga _).trans (hra 5 _ rfl)
      have e6' : wr.cell? ⟨b, off + j * 7 + 6, none⟩ = some (.slice B2 n2 d2) := (hga _).trans (hra 6 _ rfl)
      clear hra hga hx
      by_cases h4 : j < 6
      · obtain ⟨hsma, hfew⟩ := few_t hox (w' := wr.alloc (.cells #[.int .i64 k, .int .i64 cm, .int .i64 m, .bool al, .int .u8 rq, .slice B1 n1 d1, .slice B2 n2 d2] 26)) ((HU1.out.trans HUP.out).alloc _)
        obtain ⟨x1, hx1⟩ : ∃ x1, l1.take 20 = x1 := ⟨_, rfl⟩
        obtain ⟨x2, hx2⟩ : ∃ x2, l2.take 300 = x2 := ⟨_, rfl⟩
        rw [hx1, hx2] at hsma hfew
        have HSA := Lib.hid hsma
        clear hsma hox hx1 hx2
        go_upto_region 10 with (go_at_call 9; refine hfew.mono ?_; rintro e w3 ⟨A3, c3, A4, c4, rfl, s3, s4, u3⟩; have U3 := Lib.hid (show Up wr w3 from ((Up.refl wr).alloc _).trans u3); have hz3 := U3.out.size; have S3 := Lib.hid s3; have S4 := Lib.hid s4; have hz4 := u3.size; (try simp at hz4); obtain ⟨bc, bf⟩ := u3.at_ wr.heap.size (by simp); (try simp at bc bf); clear s3 s4 u3)
        --REGION10
        have hfx := fresh HFX.out HM1.out
        have hfy := fresh HFL.out HM2.out
        have HFE := Lib.hid (fun (W : World) {B1 B2 : Nat} (h1 : Sl B1 W A3 x1.length c3 x1) (h2 : Sl B2 W A4 x2.length c4 x2) => few_e (a := ⟨k, cm, m, al, rq, x1, x2⟩) HSA.out h1 h2)
        simp only at HFE
        obtain ⟨wq, hwq⟩ : ∃ wq, (((((((w3.setCell ⟨wr.heap.size, 0, none⟩ (.int .i64 k)).setCell ⟨wr.heap.size, 1, none⟩ (.int .i64 cm)).setCell ⟨wr.heap.size, 2, none⟩ (.int .i64 m)).setCell ⟨wr.heap.size, 3, none⟩ (.bool al)).setCell ⟨wr.heap.size, 4, none⟩ (.int .u8 rq)).setCell ⟨wr.heap.size, 5, none⟩ (.slice A3 x1.length c3)).setCell ⟨wr.heap.size, 6, none⟩ (.slice A4 x2.length c4)) = wq := ⟨_, rfl⟩
        have u3' := U3.out
        have UQ : Up wr wq := by
          rw [← hwq]
          (repeat (first | with_reducible exact Up.refl _ | with_reducible refine Up.alloc ?_ _ | with_reducible refine Up.drew ?_ | with_reducible refine Up.drewN ?_ _ | with_reducible refine Up.setCell ?_ (by (try simp) <;> omega) _ | with_reducible assumption | with_reducible refine Up.trans ?_ (by assumption)))
        have hwr1 := HUP.out.size
        have hduo : Duo w1 wr.heap.size m1 m1 ⟨⟨k, cm, m, al, rq, x1, x2⟩, A3, c3, A4, c4⟩ A1 c1 xs A2 c2 ys wq := by
          refine ⟨HUP.out.trans UQ, by rw [← hwq]; simp; omega, HFX.out.up UQ, HFL.out.up UQ, HM1.out, HM2.out, ?_, ?_⟩
          · refine ZSl.of ?_ ?_
            · rw [← hwq]
              refine Sl.low (B := wr.heap.size + 1) ?_ (by omega)
              repeat with_reducible refine Sl.set1 ?_ (by omega) _ _
              have := S3.out
              simpa using this
            · rw [← hwq]
              refine Sl.low (B := wr.heap.size + 1) ?_ (by omega)
              repeat with_reducible refine Sl.set1 ?_ (by omega) _ _
              have := S4.out
              simpa using this
          · rw [← hwq]; exact box7 bc
        have DUO := Lib.hid hduo
        rw [hwq]
        clear hwq U3 S3 S4 bc bf UQ u3' hwr1 hduo hz3 hz4
        have y0 := DUO.out.box 0 _ rfl
        have y1 := DUO.out.box 1 _ rfl
        have y2 := DUO.out.box 2 _ rfl
        have y3 := DUO.out.box 3 _ rfl
        have y4 := DUO.out.box 4 _ rfl
        have y5 := DUO.out.box 5 _ rfl
        have y6 := DUO.out.box 6 _ rfl
        have hsmx : ∀ y ∈ (ys ++ [(⟨⟨k, cm, m, al, rq, x1, x2⟩, A3, c3, A4, c4⟩ : EA)]).map EA.a, SmallA y := by
          intro y hy
          rw [List.map_append] at hy
          rcases List.mem_append.1 hy with hy | hy
          · exact HSM.out y hy
          · simp only [List.map_cons, List.map_nil, List.mem_singleton] at hy
            rw [hy]
            exact HSA.out
        have HSX := Lib.hid hsmx
        clear hsmx
        go_region_held_law (fun w' => w'.cell? ⟨wr.heap.size, 0, none⟩ = some (.int .i64 k) ∧ w'.cell? ⟨wr.heap.size, 1, none⟩ = some (.int .i64 cm) ∧ w'.cell? ⟨wr.heap.size, 2, none⟩ = some (.int .i64 m) ∧ w'.cell? ⟨wr.heap.size, 3, none⟩ = some (.bool al) ∧ w'.cell? ⟨wr.heap.size, 4, none⟩ = some (.int .u8 rq) ∧ w'.cell? ⟨wr.heap.size, 5, none⟩ = some (.slice A3 x1.length c3) ∧ w'.cell? ⟨wr.heap.size, 6, none⟩ = some (.slice A4 x2.length c4)) (first | exact ⟨(DUO.out.on (by (repeat (first | with_reducible exact Up.refl _ | with_reducible refine Up.alloc ?_ _ | with_reducible refine Up.drew ?_ | with_reducible refine Up.drewN ?_ _ | with_reducible refine Up.setCell ?_ (by (try simp) <;> omega) _ | with_reducible assumption | with_reducible refine Up.trans ?_ (by assumption))); first | done | fail)).box 0 _ rfl, (DUO.out.on (by (repeat (first | with_reducible exact Up.refl _ | with_reducible refine Up.alloc ?_ _ | with_reducible refine Up.drew ?_ | with_reducible refine Up.drewN ?_ _ | with_reducible refine Up.setCell ?_ (by (try simp) <;> omega) _ | with_reducible assumption | with_reducible refine Up.trans ?_ (by assumption))); first | done | fail)).box 1 _ rfl, (DUO.out.on (by (repeat (first | with_reducible exact Up.refl _ | with_reducible refine Up.alloc ?_ _ | with_reducible refine Up.drew ?_ | with_reducible refine Up.drewN ?_ _ | with_reducible refine Up.setCell ?_ (by (try simp) <;> omega) _ | with_reducible assumption | with_reducible refine Up.trans ?_ (by assumption))); first | done | fail)).box 2 _ rfl, (DUO.out.on (by (repeat (first | with_reducible exact Up.refl _ | with_reducible refine Up.alloc ?_ _ | with_reducible refine Up.drew ?_ | with_reducible refine Up.drewN ?_ _ | with_reducible refine Up.setCell ?_ (by (try simp) <;> omega) _ | with_reducible assumption | with_reducible refine Up.trans ?_ (by assumption))); first | done | fail)).box 3 _ rfl, (DUO.out.on (by (repeat (first | with_reducible exact Up.refl _ | with_reducible refine Up.alloc ?_ _ | with_reducible refine Up.drew ?_ | with_reducible refine Up.drewN ?_ _ | with_reducible refine Up.setCell ?_ (by (try simp) <;> omega) _ | with_reducible assumption | with_reducible refine Up.trans ?_ (by assumption))); first | done | fail)).box 4 _ rfl, (DUO.out.on (by (repeat (first | with_reducible exact Up.refl _ | with_reducible refine Up.alloc ?_ _ | with_reducible refine Up.drew ?_ | with_reducible refine Up.drewN ?_ _ | with_reducible refine Up.setCell ?_ (by (try simp) <;> omega) _ | with_reducible assumption | with_reducible refine Up.trans ?_ (by assumption))); first | done | fail)).box 5 _ rfl, (DUO.out.on (by (repeat (first | with_reducible exact Up.refl _ | with_reducible refine Up.alloc ?_ _ | with_reducible refine Up.drew ?_ | with_reducible refine Up.drewN ?_ _ | with_reducible refine Up.setCell ?_ (by (try simp) <;> omega) _ | with_reducible assumption | with_reducible refine Up.trans ?_ (by assumption))); first | done | fail)).box 6 _ rfl⟩ | go_keep) (first
          | (go_simp; go_at_call 9; refine (HFE.out _ (DUO.out.on (by (repeat (first | with_reducible exact Up.refl _ | with_reducible refine Up.alloc ?_ _ | with_reducible refine Up.drew ?_ | with_reducible refine Up.drewN ?_ _ | with_reducible refine Up.setCell ?_ (by (try simp) <;> omega) _ | with_reducible assumption | with_reducible refine Up.trans ?_ (by assumption))); first | done | fail)).sa (DUO.out.on (by (repeat (first | with_reducible exact Up.refl _ | with_reducible refine Up.alloc ?_ _ | with_reducible refine Up.drew ?_ | with_reducible refine Up.drewN ?_ _ | with_reducible refine Up.setCell ?_ (by (try simp) <;> omega) _ | with_reducible assumption | with_reducible refine Up.trans ?_ (by assumption))); first | done | fail)).sb).mono ?_; rintro e w4 ⟨A5, c5, A6, c6, rfl, s5, s6, u4⟩; (first | (have R34 := Lib.hid ((Lit.new (b0 := wr.heap.size) (cs := #[.int .i64 k, .int .i64 cm, .int .i64 m, .bool al, .int .u8 rq, .slice A3 x1.length c3, .slice A4 x2.length c4]) (t := 26) rfl (by first | exact Nat.le_of_lt DUO.out.lt | exact Nat.le_trans (Nat.le_of_lt DUO.out.lt) (Up.size (by (repeat (first | with_reducible exact Up.refl _ | with_reducible refine Up.alloc ?_ _ | with_reducible refine Up.drew ?_ | with_reducible refine Up.drewN ?_ _ | with_reducible refine Up.setCell ?_ (by (try simp) <;> omega) _ | with_reducible assumption | with_reducible refine Up.trans ?_ (by assumption))); first | done | fail)))).on u4)) | (have R34 := Lib.hid ((Lit.new (b0 := wr.heap.size) (cs := #[.int .i64 k, .int .i64 cm, .int .i64 m, .bool al, .int .u8 rq, .slice A3 x1.length c3, .slice A4 x2.length c4]) (t := 26) rfl (by first | exact Nat.le_of_lt DUO.out.lt | exact Nat.le_trans (Nat.le_of_lt DUO.out.lt) (Up.size (by (repeat (first | with_reducible exact Up.refl _ | with_reducible refine Up.alloc ?_ _ | with_reducible refine Up.drew ?_ | with_reducible refine Up.drewN ?_ _ | with_reducible refine Up.setCell ?_ (by (try simp) <;> omega) _ | with_reducible assumption | with_reducible refine Up.trans ?_ (by assumption))); first | done | fail)))).on (Up.trans ((Up.refl _).drew) u4)) ) | skip); have ZS := Lib.hid (ZSl.of (w1 := w1) (a := ⟨k, cm, m, al, rq, x1, x2⟩) (s5.low (Nat.le_trans DUO.out.up.size (Up.size (by (repeat (first | with_reducible exact Up.refl _ | with_reducible refine Up.alloc ?_ _ | with_reducible refine Up.drew ?_ | with_reducible refine Up.drewN ?_ _ | with_reducible refine Up.setCell ?_ (by (try simp) <;> omega) _ | with_reducible assumption | with_reducible refine Up.trans ?_ (by assumption))); first | done | fail)))) (s6.low (Nat.le_trans DUO.out.up.size (Up.size (by (repeat (first | with_reducible exact Up.refl _ | with_reducible refine Up.alloc ?_ _ | with_reducible refine Up.drew ?_ | with_reducible refine Up.drewN ?_ _ | with_reducible refine Up.setCell ?_ (by (try simp) <;> omega) _ | with_reducible assumption | with_reducible refine Up.trans ?_ (by assumption))); first | done | fail))))); have DUO := Lib.hid (DUO.out.on (Up.trans (by (repeat (first | with_reducible exact Up.refl _ | with_reducible refine Up.alloc ?_ _ | with_reducible refine Up.drew ?_ | with_reducible refine Up.drewN ?_ _ | with_reducible refine Up.setCell ?_ (by (try simp) <;> omega) _ | with_reducible assumption | with_reducible refine Up.trans ?_ (by assumption))); first | done | fail) u4)); clear s5 s6 u4)
          | (refine step_app rfl (.tmp 27) (.tmp 30) 56 rfl w1.heap.size 50 j0 _ 7 80 Tryd.underlying56 ji jz0 jz1 jz2 rfl (by decide) A1 m1 c1 (xs.flatMap EA.cells) (by simp [Act.eval, Act.put]) (DUO.out.on (by (repeat (first | with_reducible exact Up.refl _ | with_reducible refine Up.alloc ?_ _ | with_reducible refine Up.drew ?_ | with_reducible refine Up.drewN ?_ _ | with_reducible refine Up.setCell ?_ (by (try simp) <;> omega) _ | with_reducible assumption | with_reducible refine Up.trans ?_ (by assumption))); first | done | fail)).ownx _ _ 1 1 (EA.cells ⟨⟨k, cm, m, al, rq, x1, x2⟩, A5, c5, A6, c6⟩) (by (simp only [Act.eval, Act.put]; rfl)) (by (first | exact (Lit.new (b0 := wr.heap.size) (cs := #[.int .i64 k, .int .i64 cm, .int .i64 m, .bool al, .int .u8 rq, .slice A5 x1.length c5, .slice A6 x2.length c6]) (t := 50) rfl (by first | exact Nat.le_of_lt DUO.out.lt | exact Nat.le_trans (Nat.le_of_lt DUO.out.lt) (Up.size (by (repeat (first | with_reducible exact Up.refl _ | with_reducible refine Up.alloc ?_ _ | with_reducible refine Up.drew ?_ | with_reducible refine Up.drewN ?_ _ | with_reducible refine Up.setCell ?_ (by (try simp) <;> omega) _ | with_reducible assumption | with_reducible refine Up.trans ?_ (by assumption))); first | done | fail)))).rd | exact (Lit.new2 (b0 := wr.heap.size) (cs := #[.int .i64 k, .int .i64 cm, .int .i64 m, .bool al, .int .u8 rq, .slice A5 x1.length c5, .slice A6 x2.length c6]) (t := 50) rfl (by first | exact Nat.le_of_lt DUO.out.lt | exact Nat.le_trans (Nat.le_of_lt DUO.out.lt) (Up.size (by (repeat (first | with_reducible exact Up.refl _ | with_reducible refine Up.alloc ?_ _ | with_reducible refine Up.drew ?_ | with_reducible refine Up.drewN ?_ _ | with_reducible refine Up.setCell ?_ (by (try simp) <;> omega) _ | with_reducible assumption | with_reducible refine Up.trans ?_ (by assumption))); first | done | fail)))).rd | exact ((Lit.new (b0 := wr.heap.size) (cs := #[.int .i64 k, .int .i64 cm, .int .i64 m, .bool al, .int .u8 rq, .slice A5 x1.length c5, .slice A6 x2.length c6]) (t := 50) rfl (by first | exact Nat.le_of_lt DUO.out.lt | exact Nat.le_trans (Nat.le_of_lt DUO.out.lt) (Up.size (by (repeat (first | with_reducible exact Up.refl _ | with_reducible refine Up.alloc ?_ _ | with_reducible refine Up.drew ?_ | with_reducible refine Up.drewN ?_ _ | with_reducible refine Up.setCell ?_ (by (try simp) <;> omega) _ | with_reducible assumption | with_reducible refine Up.trans ?_ (by assumption))); first | done | fail)))).on ((Up.refl _).alloc _)).rd | exact ((Lit.new (b0 := wr.heap.size) (cs := #[.int .i64 k, .int .i64 cm, .int .i64 m, .bool al, .int .u8 rq, .slice A5 x1.length c5, .slice A6 x2.length c6]) (t := 50) rfl (by first | exact Nat.le_of_lt DUO.out.lt | exact Nat.le_trans (Nat.le_of_lt DUO.out.lt) (Up.size (by (repeat (first | with_reducible exact Up.refl _ | with_reducible refine Up.alloc ?_ _ | with_reducible refine Up.drew ?_ | with_reducible refine Up.drewN ?_ _ | with_reducible refine Up.setCell ?_ (by (try simp) <;> omega) _ | with_reducible assumption | with_reducible refine Up.trans ?_ (by assumption))); first | done | fail)))).on ((Up.refl _).drew)).rd | exact R30.out.rd | exact (R30.out.on (by (repeat (first | with_reducible exact Up.refl _ | with_reducible refine Up.alloc ?_ _ | with_reducible refine Up.drew ?_ | with_reducible refine Up.drewN ?_ _ | with_reducible refine Up.setCell ?_ (by (try simp) <;> omega) _ | with_reducible assumption | with_reducible refine Up.trans ?_ (by assumption))); first | done | fail)).rd)) (by simp [Value.oneCell', EA.cells]) hq1 hq2 (DUO.out.on (by (repeat (first | with_reducible exact Up.refl _ | with_reducible refine Up.alloc ?_ _ | with_reducible refine Up.drew ?_ | with_reducible refine Up.drewN ?_ _ | with_reducible refine Up.setCell ?_ (by (try simp) <;> omega) _ | with_reducible assumption | with_reducible refine Up.trans ?_ (by assumption))); first | done | fail)).up.size ?_; intro A7 c7 w5 hown5 hg5 hle5 hmx5 hbl5; (first | (have R34 := Lib.hid ((R34.out.on (by (repeat (first | with_reducible exact Up.refl _ | with_reducible refine Up.alloc ?_ _ | with_reducible refine Up.drew ?_ | with_reducible refine Up.drewN ?_ _ | with_reducible refine Up.setCell ?_ (by (try simp) <;> omega) _ | with_reducible assumption | with_reducible refine Up.trans ?_ (by assumption))); first | done | fail)).grown hg5 hfx)) | (have R34 := Lib.hid ((Lit.new2 (b0 := wr.heap.size) (cs := #[.int .i64 k, .int .i64 cm, .int .i64 m, .bool al, .int .u8 rq, .slice A3 x1.length c3, .slice A4 x2.length c4]) (t := 26) rfl (by first | exact Nat.le_of_lt DUO.out.lt | exact Nat.le_trans (Nat.le_of_lt DUO.out.lt) (Up.size (by (repeat (first | with_reducible exact Up.refl _ | with_reducible refine Up.alloc ?_ _ | with_reducible refine Up.drew ?_ | with_reducible refine Up.drewN ?_ _ | with_reducible refine Up.setCell ?_ (by (try simp) <;> omega) _ | with_reducible assumption | with_reducible refine Up.trans ?_ (by assumption))); first | done | fail)))).grown hg5 hfx)) | (have R34 := Lib.hid (((Lit.new (b0 := wr.heap.size) (cs := #[.int .i64 k, .int .i64 cm, .int .i64 m, .bool al, .int .u8 rq, .slice A3 x1.length c3, .slice A4 x2.length c4]) (t := 26) rfl (by first | exact Nat.le_of_lt DUO.out.lt | exact Nat.le_trans (Nat.le_of_lt DUO.out.lt) (Up.size (by (repeat (first | with_reducible exact Up.refl _ | with_reducible refine Up.alloc ?_ _ | with_reducible refine Up.drew ?_ | with_reducible refine Up.drewN ?_ _ | with_reducible refine Up.setCell ?_ (by (try simp) <;> omega) _ | with_reducible assumption | with_reducible refine Up.trans ?_ (by assumption))); first | done | fail)))).on ((Up.refl _).alloc _)).grown hg5 hfx)) | skip); have DUO := Lib.hid ((DUO.out.on (by (repeat (first | with_reducible exact Up.refl _ | with_reducible refine Up.alloc ?_ _ | with_reducible refine Up.drew ?_ | with_reducible refine Up.drewN ?_ _ | with_reducible refine Up.setCell ?_ (by (try simp) <;> omega) _ | with_reducible assumption | with_reducible refine Up.trans ?_ (by assumption))); first | done | fail)).app1 hfx hg5 hbl5 hown5 hle5 hmx5 (ZS.out.on (by (repeat (first | with_reducible exact Up.refl _ | with_reducible refine Up.alloc ?_ _ | with_reducible refine Up.drew ?_ | with_reducible refine Up.drewN ?_ _ | with_reducible refine Up.setCell ?_ (by (try simp) <;> omega) _ | with_reducible assumption | with_reducible refine Up.trans ?_ (by assumption))); first | done | fail))); clear hown5 hg5 hbl5)
          | (refine step_app rfl (.tmp 32) (.tmp 34) 22 rfl w1.heap.size 26 k0 _ 7 80 Tryd.underlying22 ki kz0 kz1 kz2 rfl (by decide) A2 m1 c2 (ys.flatMap EA.cells) (by simp [Act.eval, Act.put]) (DUO.out.on (by (repeat (first | with_reducible exact Up.refl _ | with_reducible refine Up.alloc ?_ _ | with_reducible refine Up.drew ?_ | with_reducible refine Up.drewN ?_ _ | with_reducible refine Up.setCell ?_ (by (try simp) <;> omega) _ | with_reducible assumption | with_reducible refine Up.trans ?_ (by assumption))); first | done | fail)).owny _ _ 1 1 (EA.cells ⟨⟨k, cm, m, al, rq, x1, x2⟩, A3, c3, A4, c4⟩) (by (simp only [Act.eval, Act.put]; rfl)) (by (first | exact (Lit.new (b0 := wr.heap.size) (cs := #[.int .i64 k, .int .i64 cm, .int .i64 m, .bool al, .int .u8 rq, .slice A3 x1.length c3, .slice A4 x2.length c4]) (t := 26) rfl (by first | exact Nat.le_of_lt DUO.out.lt | exact Nat.le_trans (Nat.le_of_lt DUO.out.lt) (Up.size (by (repeat (first | with_reducible exact Up.refl _ | with_reducible refine Up.alloc ?_ _ | with_reducible refine Up.drew ?_ | with_reducible refine Up.drewN ?_ _ | with_reducible refine Up.setCell ?_ (by (try simp) <;> omega) _ | with_reducible assumption | with_reducible refine Up.trans ?_ (by assumption))); first | done | fail)))).rd | exact (Lit.new2 (b0 := wr.heap.size) (cs := #[.int .i64 k, .int .i64 cm, .int .i64 m, .bool al, .int .u8 rq, .slice A3 x1.length c3, .slice A4 x2.length c4]) (t := 26) rfl (by first | exact Nat.le_of_lt DUO.out.lt | exact Nat.le_trans (Nat.le_of_lt DUO.out.lt) (Up.size (by (repeat (first | with_reducible exact Up.refl _ | with_reducible refine Up.alloc ?_ _ | with_reducible refine Up.drew ?_ | with_reducible refine Up.drewN ?_ _ | with_reducible refine Up.setCell ?_ (by (try simp) <;> omega) _ | with_reducible assumption | with_reducible refine Up.trans ?_ (by assumption))); first | done | fail)))).rd | exact ((Lit.new (b0 := wr.heap.size) (cs := #[.int .i64 k, .int .i64 cm, .int .i64 m, .bool al, .int .u8 rq, .slice A3 x1.length c3, .slice A4 x2.length c4]) (t := 26) rfl (by first | exact Nat.le_of_lt DUO.out.lt | exact Nat.le_trans (Nat.le_of_lt DUO.out.lt) (Up.size (by (repeat (first | with_reducible exact Up.refl _ | with_reducible refine Up.alloc ?_ _ | with_reducible refine Up.drew ?_ | with_reducible refine Up.drewN ?_ _ | with_reducible refine Up.setCell ?_ (by (try simp) <;> omega) _ | with_reducible assumption | with_reducible refine Up.trans ?_ (by assumption))); first | done | fail)))).on ((Up.refl _).alloc _)).rd | exact ((Lit.new (b0 := wr.heap.size) (cs := #[.int .i64 k, .int .i64 cm, .int .i64 m, .bool al, .int .u8 rq, .slice A3 x1.length c3, .slice A4 x2.length c4]) (t := 26) rfl (by first | exact Nat.le_of_lt DUO.out.lt | exact Nat.le_trans (Nat.le_of_lt DUO.out.lt) (Up.size (by (repeat (first | with_reducible exact Up.refl _ | with_reducible refine Up.alloc ?_ _ | with_reducible refine Up.drew ?_ | with_reducible refine Up.drewN ?_ _ | with_reducible refine Up.setCell ?_ (by (try simp) <;> omega) _ | with_reducible assumption | with_reducible refine Up.trans ?_ (by assumption))); first | done | fail)))).on ((Up.refl _).drew)).rd | exact R34.out.rd | exact (R34.out.on (by (repeat (first | with_reducible exact Up.refl _ | with_reducible refine Up.alloc ?_ _ | with_reducible refine Up.drew ?_ | with_reducible refine Up.drewN ?_ _ | with_reducible refine Up.setCell ?_ (by (try simp) <;> omega) _ | with_reducible assumption | with_reducible refine Up.trans ?_ (by assumption))); first | done | fail)).rd)) (by simp [Value.oneCell', EA.cells]) hq1 hq2 (DUO.out.on (by (repeat (first | with_reducible exact Up.refl _ | with_reducible refine Up.alloc ?_ _ | with_reducible refine Up.drew ?_ | with_reducible refine Up.drewN ?_ _ | with_reducible refine Up.setCell ?_ (by (try simp) <;> omega) _ | with_reducible assumption | with_reducible refine Up.trans ?_ (by assumption))); first | done | fail)).up.size ?_; intro A8 c8 w6 hown6 hg6 hle6 hmx6 hbl6; (first | (have R30 := Lib.hid ((Lit.new2 (b0 := wr.heap.size) (cs := #[.int .i64 k, .int .i64 cm, .int .i64 m, .bool al, .int .u8 rq, .slice A5 x1.length c5, .slice A6 x2.length c6]) (t := 50) rfl (by first | exact Nat.le_of_lt DUO.out.lt | exact Nat.le_trans (Nat.le_of_lt DUO.out.lt) (Up.size (by (repeat (first | with_reducible exact Up.refl _ | with_reducible refine Up.alloc ?_ _ | with_reducible refine Up.drew ?_ | with_reducible refine Up.drewN ?_ _ | with_reducible refine Up.setCell ?_ (by (try simp) <;> omega) _ | with_reducible assumption | with_reducible refine Up.trans ?_ (by assumption))); first | done | fail)))).grown hg6 hfy)) | (have R30 := Lib.hid (((Lit.new (b0 := wr.heap.size) (cs := #[.int .i64 k, .int .i64 cm, .int .i64 m, .bool al, .int .u8 rq, .slice A5 x1.length c5, .slice A6 x2.length c6]) (t := 50) rfl (by first | exact Nat.le_of_lt DUO.out.lt | exact Nat.le_trans (Nat.le_of_lt DUO.out.lt) (Up.size (by (repeat (first | with_reducible exact Up.refl _ | with_reducible refine Up.alloc ?_ _ | with_reducible refine Up.drew ?_ | with_reducible refine Up.drewN ?_ _ | with_reducible refine Up.setCell ?_ (by (try simp) <;> omega) _ | with_reducible assumption | with_reducible refine Up.trans ?_ (by assumption))); first | done | fail)))).on ((Up.refl _).alloc _)).grown hg6 hfy)) | (have R30 := Lib.hid ((Lit.new (b0 := wr.heap.size) (cs := #[.int .i64 k, .int .i64 cm, .int .i64 m, .bool al, .int .u8 rq, .slice A5 x1.length c5, .slice A6 x2.length c6]) (t := 50) rfl (by first | exact Nat.le_of_lt DUO.out.lt | exact Nat.le_trans (Nat.le_of_lt DUO.out.lt) (Up.size (by (repeat (first | with_reducible exact Up.refl _ | with_reducible refine Up.alloc ?_ _ | with_reducible refine Up.drew ?_ | with_reducible refine Up.drewN ?_ _ | with_reducible refine Up.setCell ?_ (by (try simp) <;> omega) _ | with_reducible assumption | with_reducible refine Up.trans ?_ (by assumption))); first | done | fail)))).grown hg6 hfy)) | skip); (first | (have ZS := Lib.hid ((ZS.out.on (by (repeat (first | with_reducible exact Up.refl _ | with_reducible refine Up.alloc ?_ _ | with_reducible refine Up.drew ?_ | with_reducible refine Up.drewN ?_ _ | with_reducible refine Up.setCell ?_ (by (try simp) <;> omega) _ | with_reducible assumption | with_reducible refine Up.trans ?_ (by assumption))); first | done | fail)).grown (DUO.out.on (by (repeat (first | with_reducible exact Up.refl _ | with_reducible refine Up.alloc ?_ _ | with_reducible refine Up.drew ?_ | with_reducible refine Up.drewN ?_ _ | with_reducible refine Up.setCell ?_ (by (try simp) <;> omega) _ | with_reducible assumption | with_reducible refine Up.trans ?_ (by assumption))); first | done | fail)).owny hg6)) | skip); have DUO := Lib.hid ((DUO.out.on (by (repeat (first | with_reducible exact Up.refl _ | with_reducible refine Up.alloc ?_ _ | with_reducible refine Up.drew ?_ | with_reducible refine Up.drewN ?_ _ | with_reducible refine Up.setCell ?_ (by (try simp) <;> omega) _ | with_reducible assumption | with_reducible refine Up.trans ?_ (by assumption))); first | done | fail)).app2 hfy hg6 hbl6 hown6 hle6 hmx6); clear hown6 hg6 hbl6))
        all_goals
          clear y0 y1 y2 y3 y4 y5 y6
          go_wp2_with fail
          go_roundw
          case rel => exact ⟨j + 1, A7, A8, c7, c8, m1 + 1, _, _, by first | rfl | go_num, rfl, rfl, DUO.out.lx, DUO.out.ly, by omega, by omega, by omega, by rw [List.map_append, List.map_append, HXY.out]; rfl, DUO.out.fx, DUO.out.fy, HSX.out, DUO.out.up⟩
          case measure => simp [intOf]; omega
      · --NOFEW
        clear hox
        go_wp2_with fail
        go_roundw
        case rel => exact ⟨j + 1, A1, A2, c1, c2, m1, xs, ys, by first | rfl | go_num, rfl, rfl, HM1.out, HM2.out, hm6, by omega, by omega, HXY.out, HFX.out.up ((Up.refl wr).alloc _), HFL.out.up ((Up.refl wr).alloc _), HSM.out, HUP.out.alloc _⟩
        case measure => simp [intOf]; omega
    · obtain ⟨l, hlE⟩ : ∃ l, ys.map EA.a = l := ⟨_, rfl⟩
      have hxe : xs.map EA.a = l := HXY.out.trans hlE
      have hll : l.length = m1 := by rw [← hlE, List.length_map, HM2.out]
      have hsml := HSM.out
      rw [hlE] at hsml
      have hs1 := srec_is (HT.out.up (HU1.out.trans HUP.out)) HFX.out (by rw [hxe]; exact hsml) (by rw [HM1.out]; omega)
      rw [hxe, HM1.out] at hs1
      have hs2 : ∀ w', Up wr w' → Calls Tryd.prog 10 #[.slice A2 m1 c2] w' (RecRet w' (recOf l)) := by
        intro w' hu
        have := rrec_is (HFL.out.up hu) HSM.out (by rw [HM2.out]; omega)
        rw [hlE, HM2.out] at this
        exact this
      have HS2 := Lib.hid hs2
      have hfb := fbs_len (l := l) hsml
      have HSL := Lib.hid hsml
      have HLL := Lib.hid hll
      have HYE := Lib.hid hlE
      obtain ⟨R, hR⟩ : ∃ R, recOf l = R := ⟨_, rfl⟩
      rw [hR] at hs1 HS2
      have HRR := Lib.hid hR
      clear hR hsml hlE hs2 hxe
      obtain ⟨F, er⟩ := R
      have hl6 : l.length ≤ 6 := by rw [hll]; omega
      clear hll
      go_wp2_with fail
      refine hs1.mono ?_
      rintro e w3 ⟨Af, cf, rfl, sf, u3⟩
      have SF := Lib.hid sf
      have U3 := Lib.hid u3
      clear sf u3 hs1
      go_wp2_with fail
      refine (HS2.out _ U3.out).mono ?_
      rintro e w4 ⟨Ag, cg, rfl, sg, u4⟩
      have SG := Lib.hid sg
      have U4 := Lib.hid u4
      clear sg u4
      have hsa := same_sl (SF.out.up U4.out) SG.out
      rw [decide_eq_true rfl] at hsa
      rcases Bool.eq_false_or_eq_true (er != 0) with e0 | e0
      · go_wp2_with fail
        refine hsa.mono ?_
        rintro e w5 ⟨rfl, u5⟩
        have U5 := Lib.hid (u5 ▸ Up.refl w4 : Up w4 w5)
        clear u5
        go_wp2_with fail
        go_ret
        exact ⟨rfl, (((HU1.out.trans HUP.out).trans U3.out).trans U4.out).trans U5.out⟩
      obtain ⟨fbs, hfbs⟩ : ∃ fbs, l.flatMap fbOf = fbs := ⟨_, rfl⟩
      have her : er = 0 := by simpa using e0
      obtain ⟨hok, hz⟩ := rec_zero (l := l) (by rw [HRR.out]; exact her)
      have har := acts_rec HSL.out hok
      rw [HRR.out, hfbs] at hz
      rw [hfbs] at hfb har
      have hF : F = 243 :: fbs := congrArg Prod.fst hz
      have hFl : F.length = fbs.length + 1 := by rw [hF]; rfl
      have sf := SF.out
      (try simp only at sf)
      rw [hFl, hF] at sf
      obtain ⟨bf, of, rfl, hbf⟩ := sf.form (by omega)
      have SF1 := Lib.hid sf
      have HAR := Lib.hid har
      have hcf := sf.cap
      (try simp only at hsa)
      (try simp only)
      rw [hFl] at hsa ⊢
      subst her
      clear hz hF hFl sf hfbs SF hok har
      go_wp2_with fail
      refine hsa.mono ?_
      rintro e w5 ⟨rfl, u5⟩
      have U5 := Lib.hid (U4.out.trans (u5 ▸ Up.refl w4 : Up w4 w5))
      clear u5 hsa
      obtain ⟨A9, hA9, hcut⟩ : ∃ A9, (if cf = 1 then (some ⟨bf, of, none⟩ : Option Addr) else some ⟨bf, of + 1, none⟩) = A9 ∧ Sl 0 w5 A9 (fbs.length + 1 - 1) (cf - 1) fbs := by
        have := (SF1.out.up U5.out).cut (k := 1) (by omega)
        exact ⟨_, rfl, by simpa [Addr.add] using (this.low (Nat.zero_le _))⟩
      have HCT := Lib.hid hcut
      have hc3 : (cf = 1 ∧ A9 = some ⟨bf, of, none⟩) ∨ (¬ cf = 1 ∧ A9 = some ⟨bf, of + 1, none⟩) := by
        by_cases h : cf = 1
        · exact .inl ⟨h, by rw [← hA9, if_pos h]⟩
        · exact .inr ⟨h, by rw [← hA9, if_neg h]⟩
      clear hcut hA9 hcf
      go_upto_region 18 with (fail)
      go_cut [11, 12] from 58 to 63 (fun s1 s2 wx => ∃ A8 c8 zs, s1 = .slice A8 m1 c8 ∧ s2 = .int .i64 0 ∧ FL 50 7 EA.cells EA.inn w5.heap.size wx A8 c8 zs ∧ zs.map EA.a = l.map plainOf ∧ Up w5 wx)
      case first =>
        have hact := sacts_is (HT.out.up ((((HU1.out.trans HUP.out).trans U3.out).trans U5.out))) HCT.out
        rw [HAR.out] at hact
        rcases hc3 with ⟨hc3, rfl⟩ | ⟨hc3, rfl⟩
        subst hc3
        all_goals
          have HACT := Lib.hid hact
          clear hact
          go_wp2_with (go_at_call 23; refine HACT.out.mono ?_; rintro e w6 ⟨A8, c8, zs, rfl, hfl8, hmap8, u8⟩; have hx8 : zs.length = m1 := (by have := congrArg List.length hmap8; simp only [List.length_map] at this; rw [this, HLL.out]); have HFL8 := Lib.hid hfl8; have HM8 := Lib.hid hmap8; have U8 := Lib.hid u8; rw [hx8]; clear hfl8 hmap8 u8 hx8)
          go_meet
          exact ⟨A8, c8, zs, rfl, rfl, HFL8.out, HM8.out, U8.out⟩
      case rest =>
      obtain ⟨A8, c8, zs, rfl, rfl, hfl8, hmap8, u8⟩ := hcut
      have hz8 : zs.length = m1 := by have := congrArg List.length hmap8; simp only [List.length_map] at this; rw [this, HLL.out]
      have UC := Lib.hid (U5.out.trans u8)
      have HF8 := Lib.hid hfl8
      have HM8 := Lib.hid hmap8
      have HZ8 := Lib.hid hz8
      clear hfl8 hmap8 u8 hz8 hc3 HCT SF1 SG HAR HRR HS2
      go_wp2_with fail
      go_loopw [75] (fun q wr2 => ∃ (i : Nat), q = .int .i64 (i : Int) ∧ i ≤ m1 ∧ Up wc wr2) (fun q _ => m1 - (intOf q).toNat)
      case atStart => exact ⟨0, rfl, Nat.zero_le _, Up.refl _⟩
      case round =>
        obtain ⟨i, rfl, him, hu2⟩ := hrel
        have HUU := Lib.hid hu2
        clear hu2
        by_cases hlt2 : i < m1
        · obtain ⟨y, hy⟩ : ∃ y, zs[i]? = some y := ⟨zs[i]'(by rw [HZ8.out]; exact hlt2), List.getElem?_eq_getElem (by rw [HZ8.out]; exact hlt2)⟩
          obtain ⟨z, hz⟩ : ∃ z, ys[i]? = some z := ⟨ys[i]'(by rw [HM2.out]; exact hlt2), List.getElem?_eq_getElem (by rw [HM2.out]; exact hlt2)⟩
          have haz : y.a = plainOf z.a := by
            have h1 : (zs.map EA.a)[i]? = some y.a := by rw [List.getElem?_map, hy]; rfl
            rw [HM8.out, ← HYE.out, List.getElem?_map, List.getElem?_map, hz] at h1
            simpa using h1.symm
          have UWC := Lib.hid ((U3.out.trans UC.out).trans HUU.out)
          obtain ⟨g, hAL, hg, cy, iy⟩ := ea_at (HF8.out.up HUU.out) hy
          obtain ⟨g', hAR, hg', cz, iz⟩ := ea_at (HFL.out.up UWC.out) hz
          subst hAL hAR
          have a0 := cy 0 _ rfl
          have a1 := cy 1 _ rfl
          have a2 := cy 2 _ rfl
          have a3 := cy 3 _ rfl
          have a4 := cy 4 _ rfl
          have a5 := cy 5 _ rfl
          have a6 := cy 6 _ rfl
          have b0 := cz 0 _ rfl
          have b1 := cz 1 _ rfl
          have b2 := cz 2 _ rfl
          have b3 := cz 3 _ rfl
          have b4 := cz 4 _ rfl
          have b5 := cz 5 _ rfl
          have b6 := cz 6 _ rfl
          have HSY1 := Lib.hid (iy _ (List.mem_cons_self ..))
          have HSY2 := Lib.hid (iy _ (List.mem_cons_of_mem _ (List.mem_cons_self ..)))
          have sz1 := iz _ (List.mem_cons_self ..)
          have sz2 := iz _ (List.mem_cons_of_mem _ (List.mem_cons_self ..))
          rw [Nat.add_zero] at a0 b0
          have HPL := Lib.hid (fun (w' : World) (hu : Up wr w') => plain_is (a := z.a) (sz1.up hu) (sz2.up hu))
          rw [← haz] at HPL
          unfold actV at HPL
          clear cy cz iy iz sz1 sz2 hy hz haz
          go_wp2_with fail
          go_region_with (first | (go_at_call 30; refine (HPL.out _ (by (repeat (first | with_reducible exact Up.refl _ | with_reducible refine Up.alloc ?_ _ | with_reducible refine Up.drew ?_ | with_reducible refine Up.drewN ?_ _ | with_reducible refine Up.setCell ?_ (by (try simp) <;> omega) _ | with_reducible assumption | with_reducible refine Up.trans ?_ (by assumption))))).mono ?_; rintro e w8 ⟨⟨X1, p1, X2, p2, rfl, s11, s12⟩, u8⟩; obtain ⟨la, la'⟩ := u8.at_ g (by (try simp) <;> omega); obtain ⟨lb, lb'⟩ := u8.at_ g' (by (try simp) <;> omega); have hz8 := u8.size; (try simp at hz8); have q8 : g < w8.heap.size := (by omega); have q9 : g' < w8.heap.size := (by omega); have S11 := Lib.hid s11; have S12 := Lib.hid s12; have U78 := Lib.hid (show Up wr w8 from (Up.trans (by (repeat (first | with_reducible exact Up.refl _ | with_reducible refine Up.alloc ?_ _ | with_reducible refine Up.drew ?_ | with_reducible refine Up.drewN ?_ _ | with_reducible refine Up.setCell ?_ (by (try simp) <;> omega) _ | with_reducible assumption | with_reducible refine Up.trans ?_ (by assumption)))) u8)); clear s11 s12 u8) | (go_at_call 22; refine (rsame_is (a := y.a) (b := y.a) (HSY1.out.up U78.out) (HSY2.out.up U78.out) S11.out S12.out).mono ?_; rintro e w9 ⟨rfl, u9⟩; rw [show sameB y.a y.a = true from sameB_iff.2 rfl]; have U89 := Lib.hid u9; clear u9))
          all_goals
            clear a0 a1 a2 a3 a4 a5 a6 b0 b1 b2 b3 b4 b5 b6
            go_wp2
            go_roundw
            case rel => exact ⟨i + 1, by first | rfl | go_num, by omega, (HUU.out.trans U78.out).trans U89.out⟩
            case measure => simp [intOf]; omega
        · go_wp2_with fail
          go_ret
          exact ⟨rfl, (((HU1.out.trans HUP.out).trans U3.out).trans UC.out).trans HUU.out⟩
end Go.Proofs.YtfambgigdhkiaaaDoor
