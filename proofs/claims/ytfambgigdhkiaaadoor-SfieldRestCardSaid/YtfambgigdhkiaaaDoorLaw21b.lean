/-
  The walk of law 21's SfieldBytes. Condition: write's table lies as the row lists it.
-/
import Derived.Test.YtfambgigdhkiaaaDoorLFlds
import Derived.Test.YtfambgigdhkiaaaDoorAwake21
import Derived.Test.YtfambgigdhkiaaaDoorFBytes
import Derived.Deep.DeepMust
namespace Go.Proofs.YtfambgigdhkiaaaDoor
open Go.RowKit
set_option linter.unusedVariables false
set_option linter.unusedSimpArgs false

theorem cut_sl {A : Option Addr} {n c : Nat} {l : List Int} {w : World} (hr : Reads w w.heap.size 1 A n (bs l)) (hb : BL l) (hn : n ≤ c) (hc : c ≤ maxLen) (m : Nat) (hm : m ≤ 65536) :
    Calls Tryd.prog 11 #[.slice A n c, .int .i64 (m : Int)] w fun e w' => ∃ A' c', e = .returned (.slice A' (l.take m).length c') ∧ Sl w.heap.size w' A' (l.take m).length c' (l.take m) ∧ w'.ownsRow w.heap.size 5 1 (.slice A' (l.take m).length c') (l.take m).length (bs (l.take m)) ∧ Up w w' := by
  refine (cut_any A n c l (m : Int) w hr hn hc (by omega) (by omega)).mono ?_
  rintro e w' ⟨A', n', c', rfl, h1, h2, h3, h4, h5⟩
  rw [Int.toNat_natCast] at h2
  have hl : (l.take m).length = n' := by simpa [bs] using h2.1
  rw [hl]
  refine ⟨A', c', rfl, Sl.of_own h2 h3 h4 ?_ (hb.take m), h2, h5⟩
  rw [← hl, List.length_take]
  omega
/-- a field's bytes and three more are that field and another -/
theorem flds_bytes {id : Int} {D : List Int} (hD : ¬ 8192 < 3 + D.length) : fldsM ((bytesOf id D).1 ++ [0, 3, 7]) 10 = ([(id, D), (7, [])], 0) := by
  have hb : (bytesOf id D).1 = [(3 + (D.length : Int)) / 256, (3 + (D.length : Int)) % 256, id] ++ D := by unfold bytesOf; rw [if_neg hD]
  obtain ⟨a, ha⟩ : ∃ a, (3 + (D.length : Int)) / 256 = a := ⟨_, rfl⟩
  obtain ⟨b, hb'⟩ : ∃ b, (3 + (D.length : Int)) % 256 = b := ⟨_, rfl⟩
  rw [hb, ha, hb']
  have hlen : ([a, b, id] ++ D ++ [0, 3, 7] : List Int).length = D.length + 6 := by simp
  have hN : fldN ([a, b, id] ++ D ++ [0, 3, 7]) = 3 + D.length := by
    unfold fldN
    rw [hlen, if_pos (by simp; omega)]
    simp
    omega
  have h1 : items ([a, b, id] ++ D ++ [0, 3, 7]) = (id, D, 0) :: items [0, 3, 7] := by
    rw [items_cons (by rw [hlen]; omega) (by rw [hN]; omega) (by rw [hN, hlen]; omega), hN]
    have e1 : ([a, b, id] ++ D ++ [0, 3, 7] : List Int).drop (3 + D.length) = [0, 3, 7] := by
      rw [List.drop_left' (by simp; omega)]
    have e2 : (([a, b, id] ++ D ++ [0, 3, 7] : List Int).take (3 + D.length)).drop 3 = D := by
      rw [List.take_left' (by simp; omega)]
      rfl
    rw [e1, e2]
    rfl
  have h2 : items [0, 3, 7] = [(7, [], 0)] := by decide
  have h3 : fldsOf ([a, b, id] ++ D ++ [0, 3, 7]) = ([(id, D), (7, [])], 0) := by
    unfold fldsOf
    rw [h1, h2]
    rfl
  unfold fldsM
  rw [h3, if_neg (by simp)]
theorem bytes_ok {id : Int} {D : List Int} (hD : ¬ 8192 < 3 + D.length) : (bytesOf id D).2 = 0 ∧ (bytesOf id D).1.length = 3 + D.length := by
  unfold bytesOf
  rw [if_neg hD]
  exact ⟨rfl, by simp; omega⟩
theorem bytes_no {id : Int} {D : List Int} (hD : 8192 < 3 + D.length) : (bytesOf id D).2 = 3 := by
  unfold bytesOf
  rw [if_pos hD]
theorem fl_two (W : World) (B g : Nat) (hg : g = W.heap.size) (hB : B ≤ W.heap.size) {id : Int} {A : Option Addr} {m c : Nat} {D : List Int} (h : Sl B W A m c D) :
    FL 43 2 RF.cells RF.inn B (W.alloc (.cells #[.int .u8 id, .slice A m c, .int .u8 7, .slice none 0 0] 43)) (some ⟨g, 0, none⟩) 2 [⟨id, A, c, D⟩, ⟨7, none, 0, []⟩] := by
  subst hg
  have hl := h.len
  subst hl
  have := World.ownsRow_lit (base := B) (size := 2) (e := 43) W #[.int .u8 id, .slice A D.length c, .int .u8 7, .slice none 0 0] 2 hB (by simp [maxLen]) rfl
  refine ⟨this, by simp, by simp [maxLen], fun x hx s hs => ?_⟩
  simp only [List.mem_cons, List.mem_nil_iff, or_false] at hx
  rcases hx with rfl | rfl
  · rw [show RF.inn ⟨id, A, c, D⟩ = [(A, c, D)] from rfl, List.mem_singleton] at hs
    subst hs
    exact h.up ((Up.refl W).alloc _)
  · rw [show RF.inn ⟨7, none, 0, []⟩ = [(none, 0, [])] from rfl, List.mem_singleton] at hs
    subst hs
    exact Sl.none_
set_option maxRecDepth 100000 in
set_option maxHeartbeats 6400000 in
theorem law_bytes (id : Int) (A : Option Addr) (n c : Nat) (L : List Int) (t : Int) (w : World) (i0 : 0 ≤ id) (i1 : id ≤ 255) (hl : L.length = n) (hn : n ≤ c) (hc : c ≤ maxLen) (hw : ∀ x ∈ L, 0 ≤ x ∧ x ≤ 255) (hr : Reads w w.heap.size 1 A n (L.map (Value.int .u8))) (t0 : 0 ≤ t) (t1 : t ≤ 255) (hT : TabW w) :
    Calls Tryd.prog 4 #[.int .u8 id, .slice A n c, .int .u8 t] w fun x w' => x = .returned (.bool true) ∧ Up w w' := by
  obtain ⟨j0, hi, hz0, hz1, hz2⟩ := info_parts info_u8
  have HR := Lib.hid hr
  have HW := Lib.hid hw
  have HT := Lib.hid hT
  clear hr hw hl hT
  go_enter Tryd.func4, Tryd.ntmps4
  go_wp2_with fail
  refine (awake21 _ HT.out).mono ?_
  rintro e wa ⟨rfl, ua⟩
  have UA := Lib.hid ua
  clear ua
  go_wp2_with fail
  refine (cut_sl (HR.out.up UA.out) HW.out hn hc 300 (by omega)).mono ?_
  rintro e wb ⟨Ap, cp, rfl, hp, -, ub⟩
  obtain ⟨p, hpe⟩ : ∃ p, L.take 300 = p := ⟨_, rfl⟩
  rw [hpe] at hp
  rw [hpe]
  have hp3 : p.length ≤ 300 := by rw [← hpe, List.length_take]; omega
  have HP := Lib.hid hp
  have UB := Lib.hid (UA.out.trans ub)
  clear hp ub hpe
  obtain ⟨k, hk⟩ : ∃ k : Nat, 1 + t % 40 = (k : Int) := ⟨(1 + t % 40).toNat, by omega⟩
  have hk40 : k ≤ 40 := by omega
  have m0 : t.tmod 40 = t % 40 := Int.tmod_eq_emod_of_nonneg t0
  go_wp2_with fail
  try rw [hk]
  have hpw := UB.out.size
  have HK := Lib.hid hk
  clear m0 hk
  go_loopw [7, 21] (fun v i wr => ∃ (j : Nat) (A1 : Option Addr) (c1 m : Nat) (D : List Int), i = .int .u8 (j : Int) ∧ v = .slice A1 m c1 ∧ j ≤ k ∧ m = j * p.length ∧ D.length = m ∧ BL D ∧ wr.ownsRow wb.heap.size 5 1 (.slice A1 m c1) m (bs D) ∧ m ≤ c1 ∧ c1 ≤ maxLen ∧ Up wb wr) (fun _ i _ => k - (intOf i).toNat)
  case atStart => exact ⟨0, none, 0, 0, [], rfl, rfl, Nat.zero_le _, by simp, rfl, BL.nil, World.ownsRow_nil _ _ _ _, Nat.le_refl _, by simp [maxLen], Up.refl _⟩
  case round =>
    obtain ⟨j, A1, c1, m, D, rfl, rfl, hj, hm, hDl, hDb, hown, hmc, hcm, hup⟩ := hrel
    have HO := Lib.hid hown
    have HUP := Lib.hid hup
    have HDB := Lib.hid hDb
    have HDL := Lib.hid hDl
    have hm2 : m ≤ 12000 := by rw [hm]; exact Nat.le_trans (Nat.mul_le_mul (show j ≤ 40 by omega) hp3) (by omega)
    clear hown hup hDb hDl
    by_cases hlt : j < k
    · have hlt' : (j : Int) < k := by omega
      have q1 : m + p.length ≤ maxLen := by simp [maxLen]; omega
      have q2 : wb.heap.size ≤ wr.heap.size := HUP.out.size
      have q3 : IntKind.u8.wrap ((j : Int) + 1) = ((j + 1 : Nat) : Int) := by rw [IntWalk.u8_in _ (by omega)]; omega
      have HM := Lib.hid (show m + p.length = (j + 1) * p.length by rw [hm, Nat.succ_mul])
      clear hm
      go_wp2_with (at_builtin; refine wpList_app _ rfl (.tmp 23) (.tmp 24) 23 rfl wb.heap.size 5 j0 _ 1 1 Tryd.underlying23 hi hz0 hz1 hz2 rfl (by decide) A1 m c1 (bs D) rfl HO.out _ Ap p.length cp (bs p) rfl (HP.out.up HUP.out).rd (one_u8 p) q1 (by omega) q2 ?_; intro A2 c2 w4 hown4 hg4 hle4 hmx4 hbl4; have HO4 := Lib.hid hown4; have HB4 := Lib.hid hbl4; clear hown4 hbl4 hg4)
      go_roundw
      case rel =>
        refine ⟨j + 1, A2, c2, m + p.length, D ++ p, ?_, rfl, by omega, HM.out, by rw [List.length_append, HDL.out], HDB.out.app HP.out.bytes, by rw [bs_app]; exact HO4.out, hle4, hmx4, HUP.out.past HB4.out⟩
        first | rfl | go_num
      case measure => simp [intOf]; omega
    · have HSD := Lib.hid (Sl.of_own HO.out hmc hcm (by omega) HDB.out)
      clear hm
      go_wp2_with fail
      refine (fbytes_is ⟨i0, i1⟩ HSD.out).mono ?_
      rintro e w5 ⟨A5, c5, rfl, s5, o5, u5⟩
      go_wp2_with fail
      refine (rbytes_is ⟨i0, i1⟩ (HSD.out.up u5)).mono ?_
      rintro e w6 ⟨A6, c6, rfl, s6, o6, u6⟩
      have hF1 := @bytes_ok id D
      have hF2 := @bytes_no id D
      have hF3 := @flds_bytes id D
      have h56 := s5.cap
      have h57 := s5.mx
      have hid := Lib.hid s5.bytes
      obtain ⟨F, hF⟩ : ∃ F, bytesOf id D = F := ⟨_, rfl⟩
      rw [hF] at hF1 hF2 hF3 s5 s6 o5 o6 h56 hid ⊢
      have S5 := Lib.hid s5
      have O5 := Lib.hid o5
      have S6 := Lib.hid s6
      have U5 := Lib.hid u5
      have U6 := Lib.hid u6
      clear s5 o5 s6 o6 u5 u6 hF
      go_wp2_with fail
      refine (same_sl (S5.out.up U6.out) S6.out).mono ?_
      rintro e w' ⟨rfl, rfl⟩
      rw [decide_eq_true rfl]
      by_cases hbig : 8192 < 3 + D.length
      · have g2 := hF2 hbig
        clear hF1 hF2 hF3 hbig
        rw [g2]
        have hU := (UB.out.trans HUP.out).trans (U5.out.trans U6.out)
        go_wp2
        go_ret
        exact ⟨rfl, by (repeat (first | with_reducible exact Up.refl _ | with_reducible refine Up.alloc ?_ _ | with_reducible refine Up.drew ?_ | with_reducible refine Up.drewN ?_ _ | with_reducible refine Up.setCell ?_ (by (try simp) <;> omega) _ | with_reducible assumption | with_reducible refine Up.trans ?_ (by assumption)))⟩
      · obtain ⟨g2, g1⟩ := hF1 hbig
        have g3 := Lib.hid (hF3 hbig)
        have HBG := Lib.hid hbig
        clear hF1 hF2 hF3 hbig
        rw [g2]
        have q1 : F.1.length + 3 ≤ maxLen := by have := HDL.out; simp [maxLen]; omega
        have q2 : wr.heap.size ≤ w6.heap.size + 1 := by have := (U5.out.trans U6.out).size; omega
        have hdm := HDL.out
        have q3 : F.1.length + 3 ≤ 65536 := by omega
        clear hdm g1
        go_wp2_with (at_builtin; go_must (refine wpList_app _ rfl (.tmp 55) (.tmp 56) 23 rfl wr.heap.size 5 j0 _ 1 1 Tryd.underlying23 hi hz0 hz1 hz2 rfl (by decide) A5 F.1.length c5 (bs F.1) rfl (own_up O5.out (U6.out.alloc _)) (w6.heap.size + 1) (some ⟨w6.heap.size, 0, none⟩) 3 3 [.int .u8 0, .int .u8 3, .int .u8 7] rfl (reads_at w6 w6.heap.size 1 3 _ _ rfl rfl) (by simp [Value.oneCell']) q1 (by omega) (by simp; omega) ?_); intro A7 c7 w7 hown7 hg7 hle7 hmx7 hbl7; have HO7 := Lib.hid hown7; have HB7 := Lib.hid hbl7; clear hown7 hbl7 hg7)
        have HB8 := Lib.hid (show BL (F.1 ++ [0, 3, 7]) from hid.out.app (BL.cons (by omega) (BL.cons (by omega) (BL.cons (by omega) BL.nil))))
        have HL8 := Lib.hid (show (F.1 ++ [0, 3, 7]).length = F.1.length + 3 by simp)
        have hsl := Sl.of_own (show w7.ownsRow wr.heap.size 5 1 (.slice A7 (F.1.length + 3) c7) (F.1.length + 3) (bs (F.1 ++ [0, 3, 7])) from by have := HO7.out; rw [bs_app]; exact this) hle7 hmx7 q3 HB8.out
        have U7 := Lib.hid (show Up wr w7 from ((U5.out.trans U6.out).alloc _).past HB7.out)
        refine (lfields_is (most := 10) hsl (by omega) (by omega)).mono ?_
        rintro e w8 ⟨A8, c8, xs, rfl, hfl, hmap, u8⟩
        rw [g3.out] at hmap ⊢
        simp only at hmap ⊢
        have hxl : xs.length = 2 := by have := congrArg List.length hmap; simpa using this
        have HFL := Lib.hid hfl
        have HMP := Lib.hid hmap
        have U8 := Lib.hid u8
        have HXL := Lib.hid hxl
        clear hfl hmap u8 hsl hxl
        rw [HXL.out]
        go_wp2_with fail
        refine (lsame_is (HFL.out.up ((Up.refl w8).alloc _)) (fl_two w8 wb.heap.size w8.heap.size rfl (by have h1 := U8.out.size; have h2 := U7.out.size; have h3 := HUP.out.size; omega) (HSD.out.up (U7.out.trans U8.out))) HXL.out rfl).mono ?_
        rintro e w9 ⟨rfl, u9⟩
        rw [decide_eq_true (show xs.map RF.bare = List.map RF.bare [⟨id, A1, c1, D⟩, ⟨7, none, 0, []⟩] from HMP.out)]
        go_wp2
        go_ret
        exact ⟨rfl, ((((UB.out.trans HUP.out).trans U7.out).trans U8.out).alloc _).trans u9⟩
end Go.Proofs.YtfambgigdhkiaaaDoor
