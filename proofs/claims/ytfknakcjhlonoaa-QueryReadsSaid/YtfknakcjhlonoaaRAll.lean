/-
  The reference's All: the fields that bytes begin with, and the error. No condition but the slice's own reach.
-/
import Derived.Test.YtfknakcjhlonoaaFL
import Derived.BigQuiet
import Derived.Deep.RegionLaw
import Derived.IntWalk
namespace Go.Proofs.Ytfknakcjhlonoaa
open Go.RowKit
set_option linter.unusedVariables false
set_option linter.unusedSimpArgs false

theorem info_rf : (Try.prog.info? 97).map (fun i => (i.zero, i.size, i.bytes)) = some (some (.agg #[.int .u8 0, .slice none 0 0]), 2, 32) := by kernel_rfl
theorem ne_rf : 97 ≠ 5 := by decide
theorem fldsOf_nil {l : List Int} (h : l.length = 0) : fldsOf l = ([], 0) := by unfold fldsOf; rw [items_nil h]; rfl
theorem fldsOf_bad {l : List Int} (h : l.length ≠ 0) (hb : fldN l < 3 ∨ l.length < fldN l) : fldsOf l = ([], 2) := by unfold fldsOf; rw [items_bad h hb]; rfl
theorem fldsOf_cons {l : List Int} (h : l.length ≠ 0) (h3 : 3 ≤ fldN l) (hn : fldN l ≤ l.length) : fldsOf l = ((l.getD 2 0, (l.take (fldN l)).drop 3) :: (fldsOf (l.drop (fldN l))).1, (fldsOf (l.drop (fldN l))).2) := by
  unfold fldsOf
  rw [items_cons h h3 hn]
  rfl
theorem getD_drop (l : List Int) (k j : Nat) : (l.drop k).getD j 0 = l.getD (k + j) 0 := by simp [List.getD_eq_getElem?_getD]
theorem step_app {P : Program} {ops : Array Oper} {o : Oper} {a : Act} {w : World} {K : Act → World → Prop} {Q : Exit → Act → World → Prop} {E : Prop} (hgd : o.guard = none) (s x : Operand) (t : TypeId)
    (ho : o.op = .call { callee := .builtin .append, args := #[s, x], argTypes := #[t, t] })
    (base : Nat) (e : TypeId) (i : TypeInfo) (z : Value) (size bytes : Nat) (ht : P.underlying t = some (.slice e)) (hi : P.info? e = some i) (hz : i.zero = some z)
    (hsize : i.size = size) (hby : i.bytes = bytes) (hzs : z.cells.size = size) (hsz : 0 < size)
    (A : Option Addr) (n c : Nat) (xs : List Value) (hs : a.eval s = .slice A n c) (hown : w.ownsRow base e size (.slice A n c) n xs)
    (B : Nat) (Ax : Option Addr) (m cx : Nat) (news : List Value) (hx : a.eval x = .slice Ax m cx) (hr : Reads w B size Ax m news) (h1 : ∀ u ∈ news, u.oneCell' = true)
    (h63 : n + m ≤ maxLen) (hbytes : (n + m) * bytes ≤ 140737488355328) (hbase : base ≤ w.heap.size)
    (h : ∀ A' c' w', w'.ownsRow base e size (.slice A' (n + m) c') (n + m) (xs ++ news) → w.grownBy w' (Value.slice A n c).ownBlock → n + m ≤ c' → c' ≤ maxLen → Below base w w' →
      K (a.put o.dst (.slice A' (n + m) c')) w') : if Region.wanted o (yielded ops a.tmps) = true then Oper.wp P o a w K Q else E := by
  have hw : Region.wanted o (yielded ops a.tmps) = true := by simp [Region.wanted, hgd]
  rw [if_pos hw]
  obtain ⟨A', c', w', hr', h2, h3, h4, h5, h6⟩ := run_app (P := P) w base t o.type e i z size bytes ht hi hz hsize hby hzs hsz A n c xs hown B Ax m cx news hr h1 h63 hbytes hbase
  unfold Oper.wp execOp
  simp only [ho, resolve, invoke, builtin, Sem.run_bind, Sem.run_pure, Result.andThen_ok, List.map_toArray, List.map_cons, List.map_nil, hs, hx, hr']
  exact h A' c' w' h2 h3 h4 h5 h6
/-- how the loop stands -/
def RAllS (w : World) (l : List Int) (n k : Nat) (A : Option Addr) (c : Nat) (xs : List RF) (wr : World) : Prop :=
  k ≤ n ∧ FL 97 2 RF.cells RF.inn w.heap.size wr A c xs ∧ (fldsOf l).1 = xs.map RF.bare ++ (fldsOf (l.drop k)).1 ∧ (fldsOf l).2 = (fldsOf (l.drop k)).2 ∧ Up w wr ∧ xs.length ≤ k
set_option maxRecDepth 100000 in
set_option maxHeartbeats 6400000 in
theorem rall_is {B : Nat} {A : Option Addr} {n c : Nat} {l : List Int} {w : World} (h : Sl B w A n c l) :
    Calls Try.prog 36 #[.slice A n c] w fun e w' => ∃ A' c' xs, e = .returned (.tuple #[.slice A' xs.length c', .int .i64 (fldsOf l).2]) ∧ FL 97 2 RF.cells RF.inn w.heap.size w' A' c' xs ∧ xs.map RF.bare = (fldsOf l).1 ∧ Up w w' := by
  obtain ⟨i0, hi, hz0, hz1, hz2⟩ := info_parts info_rf
  have HS := Lib.hid h
  have HL := Lib.hid h.len
  have hsm := h.small
  have hcap := h.cap
  clear h
  go_enter Try.func36, Try.ntmps36
  go_wp2
  go_loopw [4, 5] (fun v i wr => ∃ (k : Nat) (A1 : Option Addr) (c1 m1 : Nat) (xs : List RF), i = .int .i64 (k : Int) ∧ v = .slice A1 m1 c1 ∧ xs.length = m1 ∧ RAllS w l n k A1 c1 xs wr) (fun _ i _ => n - (intOf i).toNat)
  case atStart => exact ⟨0, none, 0, 0, [], rfl, rfl, rfl, Nat.zero_le _, FL.nil, rfl, rfl, Up.refl _, Nat.le_refl _⟩
  case round =>
    obtain ⟨k, A1, c1, m1, xs, rfl, rfl, hm1, hk, hfl, hf1, hf2, hup, hxk⟩ := hrel
    have HM1 := Lib.hid hm1
    have HFL := Lib.hid hfl
    have HF1 := Lib.hid hf1
    have HF2 := Lib.hid hf2
    have HUP := Lib.hid hup
    have HD := Lib.hid (show (l.drop k).length = n - k by rw [List.length_drop, HL.out])
    clear hm1 hfl hf1 hf2 hup
    by_cases hlt : k < n
    · have hne : n ≠ 0 := by omega
      obtain ⟨b, off, hA, hb⟩ := HS.out.form (by omega)
      subst hA
      obtain ⟨d, hd⟩ : ∃ d, n - k = d := ⟨_, rfl⟩
      rw [hd] at HD
      have q0 : IntKind.i64.wrap ((n : Int) - (k : Int)) = (d : Int) := by rw [IntWalk.i64_in _ (by omega)]; omega
      have hlt' : (k : Int) < n := by omega
      by_cases h3 : d < 3
      · have HB := Lib.hid (fldsOf_bad (l := l.drop k) (by rw [HD.out]; omega) (.inl (by unfold fldN; rw [HD.out, if_neg (by omega)]; exact h3)))
        clear hd
        go_wp2
        go_ret2
        refine ⟨A1, c1, xs, ?_, HFL.out, ?_, HUP.out⟩
        · rw [HF2.out, HB.out, HM1.out]; rfl
        · rw [HF1.out, HB.out, List.append_nil]
      · have hcx := HS.out.cell (i := k) (by omega)
        have hcy := HS.out.cell (i := k + 1) (by omega)
        have hcz := HS.out.cell (i := k + 2) (by omega)
        have hbx := HS.out.byte (i := k)
        have hby := HS.out.byte (i := k + 1)
        obtain ⟨x0, e0⟩ : ∃ x, l.getD k 0 = x := ⟨_, rfl⟩
        obtain ⟨x1, e1⟩ : ∃ x, l.getD (k + 1) 0 = x := ⟨_, rfl⟩
        obtain ⟨x2, e2⟩ : ∃ x, l.getD (k + 2) 0 = x := ⟨_, rfl⟩
        rw [e0] at hcx hbx
        rw [e1] at hcy hby
        rw [e2] at hcz
        have g0 : (l.drop k).getD 0 0 = x0 := by rw [getD_drop, Nat.add_zero, e0]
        have g1 : (l.drop k).getD 1 0 = x1 := by rw [getD_drop, e1]
        have E2 := Lib.hid e2
        clear e0 e1 e2
        have hbr : b < wr.heap.size := by have := HUP.out.size; omega
        obtain ⟨cb, fb⟩ := HUP.out.at_ b hb
        replace hcx := (cb _).trans hcx
        replace hcy := (cb _).trans hcy
        replace hcz := (cb _).trans hcz
        clear cb fb
        have q1 : (k : Int) + 1 < (n : Int) := by omega
        have q2 : ((k : Int) + 1).toNat = k + 1 := by omega
        have q3 : (0 : Int) ≤ (k : Int) + 1 := by omega
        have q4 : IntKind.i64.wrap ((k : Int) + 1) = (k : Int) + 1 := IntWalk.i64_in _ (by omega)
        have q5 : IntKind.i64.wrap (256 * x0) = 256 * x0 := IntWalk.i64_in _ (by omega)
        obtain ⟨m, hm⟩ : ∃ m : Nat, 256 * x0 + x1 = (m : Int) := ⟨(256 * x0 + x1).toNat, by omega⟩
        have q6 : IntKind.i64.wrap (256 * x0 + x1) = (m : Int) := by rw [IntWalk.i64_in _ (by omega), hm]
        have hfN : fldN (l.drop k) = if m = 0 then d else m := by
          unfold fldN
          rw [HD.out, g0, g1]
          by_cases h0 : m = 0
          · rw [if_pos h0, if_neg (by omega)]
          · rw [if_neg h0, if_pos (by omega)]; omega
        clear g0 g1
        have HFN := Lib.hid hfN
        clear hfN
        go_wp2
        go_quiet (fail)
        obtain ⟨wq, hwq⟩ : ∃ wq, wr.drewN nq = wq := ⟨_, rfl⟩
        have UQ := Lib.hid (show Up wr wq by rw [← hwq]; exact (Up.refl wr).drewN nq)
        rw [hwq]
        clear hwq
        replace hcz := ((UQ.out.at_ b hbr).1 _).trans hcz
        have hzq := UQ.out.size
        replace hbr : b < wq.heap.size := by omega
        clear hm hbx hby hcx hcy q1 q2 q3 q4 q5 q6
        by_cases hm0 : m = 0
        · have HM := Lib.hid (show fldN (l.drop k) = d by rw [HFN.out, if_pos hm0])
          subst hm0
          have hgood := fldsOf_cons (l := l.drop k) (by rw [HD.out]; omega) (by rw [HM.out]; omega) (by rw [HM.out, HD.out]; omega)
          rw [HM.out, getD_drop, List.drop_drop, E2.out] at hgood
          have HG := Lib.hid hgood
          have HLEN := Lib.hid (show (((l.drop k).take d).drop 3).length = k + d - (k + 3) by rw [List.length_drop, List.length_take, HD.out]; omega)
          have s2 : IntKind.i64.wrap ((k : Int) + 2) = (k : Int) + 2 := IntWalk.i64_in _ (by omega)
          have s2a : ((k : Int) + 2).toNat = k + 2 := by omega
          have s2b : (0 : Int) ≤ (k : Int) + 2 := by omega
          have s2c : (k : Int) + 2 < (n : Int) := by omega
          have s3 : IntKind.i64.wrap ((k : Int) + 3) = ((k + 3 : Nat) : Int) := by rw [IntWalk.i64_in _ (by omega)]; omega
          have s4 : IntKind.i64.wrap ((k : Int) + (d : Nat)) = ((k + d : Nat) : Int) := by rw [IntWalk.i64_in _ (by omega)]; omega
          have s5 : k + 3 ≤ k + d := by omega
          have s6 : k + d ≤ c := by omega
          have s7 : k + d ≤ n := by omega
          have f1 : (0 : Int) ≤ (k : Int) + (d : Nat) := by omega
          have f2 : (k : Int) + (d : Nat) ≤ (c : Int) := by omega
          have f3 : (0 : Int) ≤ (k : Int) + 3 := by omega
          have f4 : (k : Int) + 3 ≤ max ((k : Int) + (d : Nat)) 0 := by omega
          have f5 : ((k : Int) + 3).toNat = k + 3 := by omega
          have f6 : ((k : Int) + (d : Nat)).toNat = k + d := by omega
          clear hgood
          have hUW := HUP.out.trans UQ.out
          have HCT : Hid (Sl B wq (if c = k + 3 then (some ⟨b, off, none⟩ : Option Addr) else some ⟨b, off + (k + 3), none⟩) (k + d - (k + 3)) (c - (k + 3)) (((l.drop k).take d).drop 3)) := by
            show Sl B wq _ _ _ _
            have h1 := ((HS.out.up hUW).take (k := k + d) s7).cut (k := k + 3) s5
            rw [Option.map_some, show Addr.add ⟨b, off, none⟩ (k + 3) = ⟨b, off + (k + 3), none⟩ by (simp only [Addr.add]; rw [if_neg (by omega)])] at h1
            have e9 : k + d - (k + 3) = d - 3 := by omega
            rw [e9] at h1 ⊢
            rw [List.drop_take, List.drop_drop]
            rw [List.drop_take, e9] at h1
            exact h1
          clear hUW
          have HOWN := Lib.hid (show wq.ownsRow w.heap.size 97 2 (.slice A1 m1 c1) m1 (xs.flatMap RF.cells) from by have := (HFL.out.up UQ.out).own; rw [HM1.out] at this; exact this)
          have hq1 : m1 + 1 ≤ maxLen := by have := HM1.out; simp [maxLen]; omega
          have hq2 : (m1 + 1) * 32 ≤ 140737488355328 := by have := HM1.out; omega
          have hwq : w.heap.size ≤ wq.heap.size := (HUP.out.trans UQ.out).size
          by_cases hc3 : c = k + 3
          · subst hc3
            obtain rfl : d = 3 := (by omega)
            rw [if_pos rfl] at HCT
            simp only [Nat.sub_self] at HCT HLEN
            go_wp2
            go_region_law (first | (go_simp; go_at_call 16; refine (copy_sl (HCT.out.up (by (repeat (first | with_reducible exact Up.refl _ | with_reducible refine Up.alloc ?_ _ | with_reducible refine Up.drew ?_ | with_reducible refine Up.drewN ?_ _ | with_reducible refine Up.setCell ?_ (by (try simp) <;> omega) _ | with_reducible assumption | with_reducible refine Up.trans ?_ (by assumption)))))).mono ?_; rintro e w2 ⟨A2, c2, rfl, hs2, hu2⟩; obtain ⟨ca, da⟩ := hu2.at_ b (by (try simp) <;> omega); have hzc := hu2.size; (try simp at hzc); have s2x : b < w2.heap.size := (by omega)) | (refine step_app rfl (.tmp 43) (.tmp 58) 94 rfl w.heap.size 97 i0 _ 2 32 Try.underlying94 hi hz0 hz1 hz2 rfl (by decide) A1 m1 c1 (xs.flatMap RF.cells) (by simp [Act.eval, Act.put]) (own_up HOWN.out (((Up.refl wq).drew.trans hu2).alloc (.cells #[.int .u8 x2, .slice A2 0 c2] 97))) (w2.heap.size + 1) (some ⟨w2.heap.size, 0, none⟩) 1 1 [.int .u8 x2, .slice A2 0 c2] (by simp [Act.eval, Act.put]) (reads_at w2 w2.heap.size 2 1 #[.int .u8 x2, .slice A2 0 c2] 97 rfl rfl) (by simp [Value.oneCell']) hq1 hq2 (by simp; omega) ?_; intro A4 c4 w4 hown4 hg4 hle4 hmx4 hbl4; have HO4 := Lib.hid hown4; have HG4 := Lib.hid hg4; have HB4 := Lib.hid hbl4; clear hown4 hg4 hbl4))
            all_goals
              have HS2 := Lib.hid hs2
              have HU2 := Lib.hid hu2
              have hlw : w.heap.size ≤ wq.drew.heap.size := (by simpa using hwq)
              clear hs2 hu2
              go_wp2
              go_roundw
              case rel =>
                have hm := HM1.out
                subst hm
                have hup4 : Up wr (w2.alloc (.cells #[.int .u8 x2, .slice A2 0 c2] 97)) := ((UQ.out.drew.trans HU2.out).alloc _)
                refine ⟨k + 3, A4, c4, xs.length + 1, xs ++ [⟨x2, A2, c2, ((l.drop k).take 3).drop 3⟩], by first | rfl | go_num, rfl, by simp, s7, ?_, ?_, ?_, (HUP.out.trans hup4).past (HB4.out), ?_⟩
                · refine FL.push (HFL.out.up hup4) ne_rf (fun s hs => ?_) HG4.out (by have := HO4.out; rw [← HLEN.out] at this; exact this) hle4 hmx4
                  rw [show RF.inn ⟨x2, A2, c2, ((l.drop k).take 3).drop 3⟩ = [(A2, c2, ((l.drop k).take 3).drop 3)] from rfl, List.mem_singleton] at hs
                  subst hs
                  exact (HS2.out.norm.low hlw).up ((Up.refl _).alloc _)
                · rw [HF1.out, HG.out, List.map_append]
                  simp [RF.bare]
                · rw [HF2.out, HG.out]
                · simp; omega
              case measure => simp [intOf]; omega
          · rw [if_neg hc3] at HCT
            go_wp2
            go_region_law (first | (go_simp; go_at_call 16; refine (copy_sl (HCT.out.up (by (repeat (first | with_reducible exact Up.refl _ | with_reducible refine Up.alloc ?_ _ | with_reducible refine Up.drew ?_ | with_reducible refine Up.drewN ?_ _ | with_reducible refine Up.setCell ?_ (by (try simp) <;> omega) _ | with_reducible assumption | with_reducible refine Up.trans ?_ (by assumption)))))).mono ?_; rintro e w2 ⟨A2, c2, rfl, hs2, hu2⟩; obtain ⟨ca, da⟩ := hu2.at_ b (by (try simp) <;> omega); have hzc := hu2.size; (try simp at hzc); have s2x : b < w2.heap.size := (by omega)) | (refine step_app rfl (.tmp 43) (.tmp 58) 94 rfl w.heap.size 97 i0 _ 2 32 Try.underlying94 hi hz0 hz1 hz2 rfl (by decide) A1 m1 c1 (xs.flatMap RF.cells) (by simp [Act.eval, Act.put]) (own_up HOWN.out (((Up.refl wq).drew.trans hu2).alloc (.cells #[.int .u8 x2, .slice A2 (k + d - (k + 3)) c2] 97))) (w2.heap.size + 1) (some ⟨w2.heap.size, 0, none⟩) 1 1 [.int .u8 x2, .slice A2 (k + d - (k + 3)) c2] (by simp [Act.eval, Act.put]) (reads_at w2 w2.heap.size 2 1 #[.int .u8 x2, .slice A2 (k + d - (k + 3)) c2] 97 rfl rfl) (by simp [Value.oneCell']) hq1 hq2 (by simp; omega) ?_; intro A4 c4 w4 hown4 hg4 hle4 hmx4 hbl4; have HO4 := Lib.hid hown4; have HG4 := Lib.hid hg4; have HB4 := Lib.hid hbl4; clear hown4 hg4 hbl4))
            all_goals
              have HS2 := Lib.hid hs2
              have HU2 := Lib.hid hu2
              have hlw : w.heap.size ≤ wq.drew.heap.size := (by simpa using hwq)
              clear hs2 hu2
              go_wp2
              go_roundw
              case rel =>
                have hm := HM1.out
                subst hm
                have hup4 : Up wr (w2.alloc (.cells #[.int .u8 x2, .slice A2 (k + d - (k + 3)) c2] 97)) := ((UQ.out.drew.trans HU2.out).alloc _)
                refine ⟨k + d, A4, c4, xs.length + 1, xs ++ [⟨x2, A2, c2, ((l.drop k).take d).drop 3⟩], by first | rfl | go_num, rfl, by simp, s7, ?_, ?_, ?_, (HUP.out.trans hup4).past (HB4.out), ?_⟩
                · refine FL.push (HFL.out.up hup4) ne_rf (fun s hs => ?_) HG4.out (by have := HO4.out; rw [← HLEN.out] at this; exact this) hle4 hmx4
                  rw [show RF.inn ⟨x2, A2, c2, ((l.drop k).take d).drop 3⟩ = [(A2, c2, ((l.drop k).take d).drop 3)] from rfl, List.mem_singleton] at hs
                  subst hs
                  exact (HS2.out.norm.low hlw).up ((Up.refl _).alloc _)
                · rw [HF1.out, HG.out, List.map_append]
                  simp [RF.bare]
                · rw [HF2.out, HG.out]
                · simp; omega
              case measure => simp [intOf]; omega
        · have HM := Lib.hid (show fldN (l.drop k) = m by rw [HFN.out, if_neg hm0])
          have hm0' : (((m : Nat) : Int) == 0) = false := by simp; omega
          by_cases hbad : m < 3 ∨ d < m
          · have HB := Lib.hid (fldsOf_bad (l := l.drop k) (by rw [HD.out]; omega) (by rw [HM.out, HD.out]; exact hbad))
            have hbad' : m < 3 ∨ (¬ m < 3 ∧ d < m) := by omega
            clear hbad hd
            rcases hbad' with hb1 | ⟨hb1, hb2⟩
            all_goals
              go_wp2
              go_ret2
              refine ⟨A1, c1, xs, ?_, HFL.out.up UQ.out, ?_, HUP.out.trans UQ.out⟩
              · rw [HF2.out, HB.out, HM1.out]; rfl
              · rw [HF1.out, HB.out, List.append_nil]
          · have hm3 : 3 ≤ m := by omega
            have hmd : m ≤ d := by omega
            clear hbad
            have hgood := fldsOf_cons (l := l.drop k) (by rw [HD.out]; omega) (by rw [HM.out]; omega) (by rw [HM.out, HD.out]; omega)
            rw [HM.out, getD_drop, List.drop_drop, E2.out] at hgood
            have HG := Lib.hid hgood
            have HLEN := Lib.hid (show (((l.drop k).take m).drop 3).length = k + m - (k + 3) by rw [List.length_drop, List.length_take, HD.out]; omega)
            have s2 : IntKind.i64.wrap ((k : Int) + 2) = (k : Int) + 2 := IntWalk.i64_in _ (by omega)
            have s2a : ((k : Int) + 2).toNat = k + 2 := by omega
            have s2b : (0 : Int) ≤ (k : Int) + 2 := by omega
            have s2c : (k : Int) + 2 < (n : Int) := by omega
            have s3 : IntKind.i64.wrap ((k : Int) + 3) = ((k + 3 : Nat) : Int) := by rw [IntWalk.i64_in _ (by omega)]; omega
            have s4 : IntKind.i64.wrap ((k : Int) + (m : Nat)) = ((k + m : Nat) : Int) := by rw [IntWalk.i64_in _ (by omega)]; omega
            have s5 : k + 3 ≤ k + m := by omega
            have s6 : k + m ≤ c := by omega
            have s7 : k + m ≤ n := by omega
            have f1 : (0 : Int) ≤ (k : Int) + (m : Nat) := by omega
            have f2 : (k : Int) + (m : Nat) ≤ (c : Int) := by omega
            have f3 : (0 : Int) ≤ (k : Int) + 3 := by omega
            have f4 : (k : Int) + 3 ≤ max ((k : Int) + (m : Nat)) 0 := by omega
            have f5 : ((k : Int) + 3).toNat = k + 3 := by omega
            have f6 : ((k : Int) + (m : Nat)).toNat = k + m := by omega
            clear hgood
            have hUW := HUP.out.trans UQ.out
            have HCT : Hid (Sl B wq (if c = k + 3 then (some ⟨b, off, none⟩ : Option Addr) else some ⟨b, off + (k + 3), none⟩) (k + m - (k + 3)) (c - (k + 3)) (((l.drop k).take m).drop 3)) := by
              show Sl B wq _ _ _ _
              have h1 := ((HS.out.up hUW).take (k := k + m) s7).cut (k := k + 3) s5
              rw [Option.map_some, show Addr.add ⟨b, off, none⟩ (k + 3) = ⟨b, off + (k + 3), none⟩ by (simp only [Addr.add]; rw [if_neg (by omega)])] at h1
              have e9 : k + m - (k + 3) = m - 3 := by omega
              rw [e9] at h1 ⊢
              rw [List.drop_take, List.drop_drop]
              rw [List.drop_take, e9] at h1
              exact h1
            clear hUW
            have HOWN := Lib.hid (show wq.ownsRow w.heap.size 97 2 (.slice A1 m1 c1) m1 (xs.flatMap RF.cells) from by have := (HFL.out.up UQ.out).own; rw [HM1.out] at this; exact this)
            have hq1 : m1 + 1 ≤ maxLen := by have := HM1.out; simp [maxLen]; omega
            have hq2 : (m1 + 1) * 32 ≤ 140737488355328 := by have := HM1.out; omega
            have hwq : w.heap.size ≤ wq.heap.size := (HUP.out.trans UQ.out).size
            by_cases hc3 : c = k + 3
            · subst hc3
              obtain rfl : m = 3 := (by omega)
              rw [if_pos rfl] at HCT
              simp only [Nat.sub_self] at HCT HLEN
              go_wp2
              go_region_law (first | (go_simp; go_at_call 16; refine (copy_sl (HCT.out.up (by (repeat (first | with_reducible exact Up.refl _ | with_reducible refine Up.alloc ?_ _ | with_reducible refine Up.drew ?_ | with_reducible refine Up.drewN ?_ _ | with_reducible refine Up.setCell ?_ (by (try simp) <;> omega) _ | with_reducible assumption | with_reducible refine Up.trans ?_ (by assumption)))))).mono ?_; rintro e w2 ⟨A2, c2, rfl, hs2, hu2⟩; obtain ⟨ca, da⟩ := hu2.at_ b (by (try simp) <;> omega); have hzc := hu2.size; (try simp at hzc); have s2x : b < w2.heap.size := (by omega)) | (refine step_app rfl (.tmp 43) (.tmp 58) 94 rfl w.heap.size 97 i0 _ 2 32 Try.underlying94 hi hz0 hz1 hz2 rfl (by decide) A1 m1 c1 (xs.flatMap RF.cells) (by simp [Act.eval, Act.put]) (own_up HOWN.out (((Up.refl wq).drew.trans hu2).alloc (.cells #[.int .u8 x2, .slice A2 0 c2] 97))) (w2.heap.size + 1) (some ⟨w2.heap.size, 0, none⟩) 1 1 [.int .u8 x2, .slice A2 0 c2] (by simp [Act.eval, Act.put]) (reads_at w2 w2.heap.size 2 1 #[.int .u8 x2, .slice A2 0 c2] 97 rfl rfl) (by simp [Value.oneCell']) hq1 hq2 (by simp; omega) ?_; intro A4 c4 w4 hown4 hg4 hle4 hmx4 hbl4; have HO4 := Lib.hid hown4; have HG4 := Lib.hid hg4; have HB4 := Lib.hid hbl4; clear hown4 hg4 hbl4))
              all_goals
                have HS2 := Lib.hid hs2
                have HU2 := Lib.hid hu2
                have hlw : w.heap.size ≤ wq.drew.heap.size := (by simpa using hwq)
                clear hs2 hu2
                go_wp2
                go_roundw
                case rel =>
                  have hm := HM1.out
                  subst hm
                  have hup4 : Up wr (w2.alloc (.cells #[.int .u8 x2, .slice A2 0 c2] 97)) := ((UQ.out.drew.trans HU2.out).alloc _)
                  refine ⟨k + 3, A4, c4, xs.length + 1, xs ++ [⟨x2, A2, c2, ((l.drop k).take 3).drop 3⟩], by first | rfl | go_num, rfl, by simp, s7, ?_, ?_, ?_, (HUP.out.trans hup4).past (HB4.out), ?_⟩
                  · refine FL.push (HFL.out.up hup4) ne_rf (fun s hs => ?_) HG4.out (by have := HO4.out; rw [← HLEN.out] at this; exact this) hle4 hmx4
                    rw [show RF.inn ⟨x2, A2, c2, ((l.drop k).take 3).drop 3⟩ = [(A2, c2, ((l.drop k).take 3).drop 3)] from rfl, List.mem_singleton] at hs
                    subst hs
                    exact (HS2.out.norm.low hlw).up ((Up.refl _).alloc _)
                  · rw [HF1.out, HG.out, List.map_append]
                    simp [RF.bare]
                  · rw [HF2.out, HG.out]
                  · simp; omega
                case measure => simp [intOf]; omega
            · rw [if_neg hc3] at HCT
              go_wp2
              go_region_law (first | (go_simp; go_at_call 16; refine (copy_sl (HCT.out.up (by (repeat (first | with_reducible exact Up.refl _ | with_reducible refine Up.alloc ?_ _ | with_reducible refine Up.drew ?_ | with_reducible refine Up.drewN ?_ _ | with_reducible refine Up.setCell ?_ (by (try simp) <;> omega) _ | with_reducible assumption | with_reducible refine Up.trans ?_ (by assumption)))))).mono ?_; rintro e w2 ⟨A2, c2, rfl, hs2, hu2⟩; obtain ⟨ca, da⟩ := hu2.at_ b (by (try simp) <;> omega); have hzc := hu2.size; (try simp at hzc); have s2x : b < w2.heap.size := (by omega)) | (refine step_app rfl (.tmp 43) (.tmp 58) 94 rfl w.heap.size 97 i0 _ 2 32 Try.underlying94 hi hz0 hz1 hz2 rfl (by decide) A1 m1 c1 (xs.flatMap RF.cells) (by simp [Act.eval, Act.put]) (own_up HOWN.out (((Up.refl wq).drew.trans hu2).alloc (.cells #[.int .u8 x2, .slice A2 (k + m - (k + 3)) c2] 97))) (w2.heap.size + 1) (some ⟨w2.heap.size, 0, none⟩) 1 1 [.int .u8 x2, .slice A2 (k + m - (k + 3)) c2] (by simp [Act.eval, Act.put]) (reads_at w2 w2.heap.size 2 1 #[.int .u8 x2, .slice A2 (k + m - (k + 3)) c2] 97 rfl rfl) (by simp [Value.oneCell']) hq1 hq2 (by simp; omega) ?_; intro A4 c4 w4 hown4 hg4 hle4 hmx4 hbl4; have HO4 := Lib.hid hown4; have HG4 := Lib.hid hg4; have HB4 := Lib.hid hbl4; clear hown4 hg4 hbl4))
              all_goals
                have HS2 := Lib.hid hs2
                have HU2 := Lib.hid hu2
                have hlw : w.heap.size ≤ wq.drew.heap.size := (by simpa using hwq)
                clear hs2 hu2
                go_wp2
                go_roundw
                case rel =>
                  have hm := HM1.out
                  subst hm
                  have hup4 : Up wr (w2.alloc (.cells #[.int .u8 x2, .slice A2 (k + m - (k + 3)) c2] 97)) := ((UQ.out.drew.trans HU2.out).alloc _)
                  refine ⟨k + m, A4, c4, xs.length + 1, xs ++ [⟨x2, A2, c2, ((l.drop k).take m).drop 3⟩], by first | rfl | go_num, rfl, by simp, s7, ?_, ?_, ?_, (HUP.out.trans hup4).past (HB4.out), ?_⟩
                  · refine FL.push (HFL.out.up hup4) ne_rf (fun s hs => ?_) HG4.out (by have := HO4.out; rw [← HLEN.out] at this; exact this) hle4 hmx4
                    rw [show RF.inn ⟨x2, A2, c2, ((l.drop k).take m).drop 3⟩ = [(A2, c2, ((l.drop k).take m).drop 3)] from rfl, List.mem_singleton] at hs
                    subst hs
                    exact (HS2.out.norm.low hlw).up ((Up.refl _).alloc _)
                  · rw [HF1.out, HG.out, List.map_append]
                    simp [RF.bare]
                  · rw [HF2.out, HG.out]
                  · simp; omega
                case measure => simp [intOf]; omega

    · obtain rfl : k = n := by omega
      have HN := Lib.hid (fldsOf_nil (l := l.drop k) (by rw [HD.out]; omega))
      go_wp2
      go_ret2
      refine ⟨A1, c1, xs, ?_, HFL.out, ?_, HUP.out⟩
      · rw [HF2.out, HN.out, HM1.out]; rfl
      · rw [HF1.out, HN.out, List.append_nil]
end Go.Proofs.Ytfknakcjhlonoaa
