/-
  What the reference's Of makes of any field: the same as the program's Act. No condition.
-/
import Derived.Test.YtfambgigdhkiaaaDoorROf3
namespace Go.Proofs.YtfambgigdhkiaaaDoor
open Go.RowKit
set_option linter.unusedVariables false
set_option linter.unusedSimpArgs false

theorem refCmd_two : refCmd 2 = 5 := by decide +kernel
set_option maxHeartbeats 1600000 in
theorem rof_is {B : Nat} {A : Option Addr} {n c : Nat} {l : List Int} {id : Int} {w : World} (h : Sl B w A n c l) :
    Calls Tryd.prog 21 #[.agg #[.int .u8 id, .slice A n c]] w (ActRet w (actOf id l)) := by
  have hl := h.len
  by_cases s : ((id = 1 ∨ id = 9 ∨ id = 64) ∧ n < 2) ∨ ((id = 12 ∨ id = 13 ∨ id = 14) ∧ n < 1) ∨ (id = 3 ∧ ((n : Int) != 1) = true) ∨ ((id = 13 ∨ id = 14) ∧ 1 < n)
  · have e : actOf id l = (zAct, 4) := by
      rcases s with ⟨rfl | rfl | rfl, h⟩ | ⟨rfl | rfl | rfl, h⟩ | ⟨rfl, h⟩ | ⟨rfl | rfl, h⟩
      · show readsOf l = _
        unfold readsOf; rw [if_pos (by omega)]
      · show setsOf l = _
        unfold setsOf; rw [if_pos (.inl (by omega))]
      · show outsOf l = _
        unfold outsOf; rw [if_pos (by omega)]
      · show partsOf 6 l = _
        unfold partsOf; rw [if_pos (.inl (by omega))]
      · show partsOf 7 l = _
        unfold partsOf; rw [if_pos (.inl (by omega))]
      · show partsOf 8 l = _
        unfold partsOf; rw [if_pos (.inl (by omega))]
      · show erasesOf l = _
        unfold erasesOf; rw [if_neg (fun hh => by have := hh.1; simp at h; omega)]
      · show partsOf 7 l = _
        unfold partsOf; rw [if_pos (.inr ⟨by decide, by omega⟩)]
      · show partsOf 8 l = _
        unfold partsOf; rw [if_pos (.inr ⟨by decide, by omega⟩)]
    rw [e]
    exact ro_short s
  · by_cases hk : id = 1 ∨ id = 3 ∨ id = 9 ∨ id = 12 ∨ id = 13 ∨ id = 14 ∨ id = 64
    · have hn0 : 0 < n := by
        rcases Nat.eq_zero_or_pos n with h0 | h0
        · exfalso
          apply s
          rcases hk with rfl | rfl | rfl | rfl | rfl | rfl | rfl
          · exact .inl ⟨.inl rfl, by omega⟩
          · exact .inr (.inr (.inl ⟨rfl, by simp; omega⟩))
          · exact .inl ⟨.inr (.inl rfl), by omega⟩
          · exact .inr (.inl ⟨.inl rfl, by omega⟩)
          · exact .inr (.inl ⟨.inr (.inl rfl), by omega⟩)
          · exact .inr (.inl ⟨.inr (.inr rfl), by omega⟩)
          · exact .inl ⟨.inr (.inr rfl), by omega⟩
        · exact h0
      have hcut := h.cut (k := 1) (by omega)
      obtain ⟨b, off, rfl, hb⟩ := h.form hn0
      have hc := h.cell (i := 0) (by omega)
      rw [Nat.add_zero] at hc
      have hy := h.byte (i := 1)
      rcases hk with rfl | rfl | rfl | rfl | rfl | rfl | rfl
      · -- 1
        have hn2 : 1 < n := by
          rcases Nat.lt_or_ge 1 n with h1 | h1
          · exact h1
          · exact absurd (.inl ⟨.inl rfl, by omega⟩) s
        have hc1 := h.cell (i := 1) (by omega)
        have hcm := Lib.hid (fun w => ref_cmd_is (l.getD 1 0) w hy)
        have hlen : ¬ l.length < 2 := by omega
        show Calls _ _ _ _ (ActRet w (readsOf l))
        by_cases y2 : l.getD 1 0 = 2
        · by_cases n2 : n = 2
          · have e : readsOf l = if l.getD 0 0 = 255 then (⟨1, 0, 0, false, 0, [], []⟩, 0) else (zAct, 1) := by
              unfold readsOf partOf
              rw [if_neg hlen, if_pos y2, if_pos (by omega)]
            rw [e]
            by_cases gx : l.getD 0 0 = 255
            · rw [if_pos gx]; exact ro_q1 (l := l) (z := 0) hb hc hc1 hn2 hcm y2 n2 gx
            · rw [if_neg gx]; exact ro_q2 (l := l) (z := 0) hb hc hc1 hn2 hcm y2 n2 (bne_iff_ne.2 gx)
          · have e : readsOf l = (zAct, 4) := by
              unfold readsOf
              rw [if_neg hlen, if_pos y2, if_neg (by omega)]
            rw [e]
            exact ro_r4 (l := l) (z := 0) hb hc hc1 hn2 hcm (.inl ⟨y2, by simp; omega⟩)
        · by_cases y3 : l.getD 1 0 = 3
          · by_cases n3 : 3 ≤ n
            · have hc2 := h.cell (i := 2) (by omega)
              by_cases hz : l.getD 2 0 = 0 ∨ l.getD 2 0 = 64 ∨ l.getD 2 0 = 128
              · have e : readsOf l = if l.getD 0 0 = 255 then (⟨2, 0, 0, false, l.getD 2 0, l.drop 3, []⟩, 0) else (zAct, 1) := by
                  unfold readsOf partOf
                  rw [if_neg hlen, if_neg y2, if_pos y3, if_pos ⟨by omega, hz⟩]
                rw [e]
                exact ro_list hb hc hc1 hn2 hcm h n3 y3 hc2 hz
              · have e : readsOf l = (zAct, 4) := by
                  unfold readsOf
                  rw [if_neg hlen, if_neg y2, if_pos y3, if_neg (fun hh => hz hh.2)]
                rw [e]
                exact ro_r4 (l := l) hb hc hc1 hn2 hcm (.inr (.inr (.inl ⟨y3, n3, hc2, bne_iff_ne.2 (fun e => hz (.inl e)), bne_iff_ne.2 (fun e => hz (.inr (.inl e))), bne_iff_ne.2 (fun e => hz (.inr (.inr e)))⟩)))
            · have e : readsOf l = (zAct, 4) := by
                unfold readsOf
                rw [if_neg hlen, if_neg y2, if_pos y3, if_neg (fun hh => by have := hh.1; omega)]
              rw [e]
              exact ro_r4 (l := l) (z := 0) hb hc hc1 hn2 hcm (.inr (.inl ⟨y3, by omega⟩))
          · have b2 : (l.getD 1 0 == 2) = false := beq_eq_false_iff_ne.2 y2
            have b3 : (l.getD 1 0 == 3) = false := beq_eq_false_iff_ne.2 y3
            cases hq : cmdOf (l.getD 1 0) with
            | none =>
              have e : readsOf l = (zAct, 4) := by
                unfold readsOf
                rw [if_neg hlen, if_neg y2, if_neg y3, hq]
              have e2 : refCmd (l.getD 1 0) = -1 := by unfold refCmd; rw [hq]
              rw [e]
              rw [e2] at hcm
              exact ro_r4 (l := l) (z := 0) hb hc hc1 hn2 hcm (.inr (.inr (.inr ⟨b2, b3, .inl (by omega)⟩)))
            | some k =>
              have e2 : refCmd (l.getD 1 0) = (k : Int) := by unfold refCmd; rw [hq]
              rw [e2] at hcm
              by_cases g : 5 ≤ k ∧ k ≤ 7
              · by_cases n2 : n = 2
                · have e : readsOf l = if l.getD 0 0 = 0 then (⟨3, (k : Int), 0, false, 0, [], []⟩, 0) else (zAct, 1) := by
                    unfold readsOf partOf
                    rw [if_neg hlen, if_neg y2, if_neg y3, hq]
                    exact if_pos ⟨g.1, g.2, by omega⟩
                  rw [e]
                  by_cases gx : l.getD 0 0 = 0
                  · rw [if_pos gx]; exact ro_r5 (l := l) (z := 0) hb hc hc1 hn2 hcm b2 b3 (by omega) (by omega) n2 gx
                  · rw [if_neg gx]; exact ro_r6 (l := l) (z := 0) hb hc hc1 hn2 hcm b2 b3 (by omega) (by omega) n2 (bne_iff_ne.2 gx)
                · have e : readsOf l = (zAct, 4) := by
                    unfold readsOf
                    rw [if_neg hlen, if_neg y2, if_neg y3, hq]
                    exact if_neg (fun hh => by have := hh.2.2; omega)
                  rw [e]
                  exact ro_r4 (l := l) (z := 0) hb hc hc1 hn2 hcm (.inr (.inr (.inr ⟨b2, b3, .inr (.inr ⟨by omega, by omega, by simp; omega⟩)⟩)))
              · have e : readsOf l = (zAct, 4) := by
                  unfold readsOf
                  rw [if_neg hlen, if_neg y2, if_neg y3, hq]
                  exact if_neg (fun hh => g ⟨hh.1, hh.2.1⟩)
                rw [e]
                by_cases g5 : 5 ≤ k
                · exact ro_r4 (l := l) (z := 0) hb hc hc1 hn2 hcm (.inr (.inr (.inr ⟨b2, b3, .inr (.inl ⟨by omega, by omega⟩)⟩)))
                · exact ro_r4 (l := l) (z := 0) hb hc hc1 hn2 hcm (.inr (.inr (.inr ⟨b2, b3, .inl (by omega)⟩)))
      · -- 3
        have hn1 : n = 1 := by
          by_cases h1 : n = 1
          · exact h1
          · exact absurd (.inr (.inr (.inl ⟨rfl, by simp; omega⟩))) s
        show Calls _ _ _ _ (ActRet w (erasesOf l))
        by_cases g0 : l.getD 0 0 = 0
        · rw [show erasesOf l = (⟨4, 0, 0, false, 0, [], []⟩, 0) by unfold erasesOf; rw [if_pos ⟨by omega, .inl g0⟩, g0]; rfl]
          exact ro_erase0 (l := l) (y := 0) (z := 0) (cv := 0) hb hc hn1 g0
        · by_cases g1 : l.getD 0 0 = 128
          · rw [show erasesOf l = (⟨4, 0, 0, true, 0, [], []⟩, 0) by unfold erasesOf; rw [if_pos ⟨by omega, .inr g1⟩, g1]; rfl]
            exact ro_erase1 (l := l) (y := 0) (z := 0) (cv := 0) hb hc hn1 g1
          · rw [show erasesOf l = (zAct, 4) by unfold erasesOf; rw [if_neg (fun hh => hh.2.elim g0 g1)]]
            exact ro_erase2 (l := l) (y := 0) (z := 0) (cv := 0) hb hc hn1 (bne_iff_ne.2 g0) (bne_iff_ne.2 g1)
      · -- 9
        have hn2 : 1 < n := by
          rcases Nat.lt_or_ge 1 n with h1 | h1
          · exact h1
          · exact absurd (.inl ⟨.inr (.inl rfl), by omega⟩) s
        have hc1 := h.cell (i := 1) (by omega)
        show Calls _ _ _ _ (ActRet w (setsOf l))
        by_cases g : 2 < l.getD 1 0 ∨ (l.getD 1 0 < 2 ∧ 2 < n)
        · rw [show setsOf l = (zAct, 4) by unfold setsOf; rw [if_pos (.inr (by omega))]]
          exact ro_mode0 (l := l) (z := 0) (cv := 0) hb hc hc1 hn2 g
        · have e : setsOf l = partOf ⟨5, 0, l.getD 1 0, false, 0, [], []⟩ l 0 := by unfold setsOf; rw [if_neg (by omega)]
          rw [e]
          unfold partOf
          have g2 : (l.getD 1 0 < 2 ∧ ¬ 2 < (n : Int)) ∨ (¬ l.getD 1 0 < 2 ∧ ¬ 2 < l.getD 1 0) := by omega
          by_cases gx : l.getD 0 0 = 0
          · rw [if_pos gx]; exact ro_mode1 (l := l) (z := 0) (cv := 0) hb hc hc1 hn2 hy gx g2
          · rw [if_neg gx]; exact ro_mode2 (l := l) (z := 0) (cv := 0) hb hc hc1 hn2 hy (bne_iff_ne.2 gx) g2
      · show Calls _ _ _ _ (ActRet w (partsOf 6 l))
        rw [show partsOf 6 l = partOf ⟨6, 0, 0, false, 0, [], []⟩ l 0 by unfold partsOf; rw [if_neg (by omega)]]
        unfold partOf
        by_cases gx : l.getD 0 0 = 0
        · rw [if_pos gx]; exact ro_part12 (l := l) (y := 0) (z := 0) (cv := 0) hb hc hn0 gx
        · rw [if_neg gx]; exact ro_part12n (l := l) (y := 0) (z := 0) (cv := 0) hb hc hn0 (bne_iff_ne.2 gx)
      · have hn1 : n = 1 := by
          by_cases h1 : n = 1
          · exact h1
          · exact absurd (.inr (.inr (.inr ⟨.inl rfl, by omega⟩))) s
        show Calls _ _ _ _ (ActRet w (partsOf 7 l))
        rw [show partsOf 7 l = partOf ⟨7, 0, 0, false, 0, [], []⟩ l 0 by unfold partsOf; rw [if_neg (by omega)]]
        unfold partOf
        by_cases gx : l.getD 0 0 = 0
        · rw [if_pos gx]; exact ro_part13 (l := l) (y := 0) (z := 0) (cv := 0) hb hc hn1 gx
        · rw [if_neg gx]; exact ro_part13n (l := l) (y := 0) (z := 0) (cv := 0) hb hc hn1 (bne_iff_ne.2 gx)
      · have hn1 : n = 1 := by
          by_cases h1 : n = 1
          · exact h1
          · exact absurd (.inr (.inr (.inr ⟨.inr rfl, by omega⟩))) s
        show Calls _ _ _ _ (ActRet w (partsOf 8 l))
        rw [show partsOf 8 l = partOf ⟨8, 0, 0, false, 0, [], []⟩ l 0 by unfold partsOf; rw [if_neg (by omega)]]
        unfold partOf
        by_cases gx : l.getD 0 0 = 0
        · rw [if_pos gx]; exact ro_part14 (l := l) (y := 0) (z := 0) (cv := 0) hb hc hn1 gx
        · rw [if_neg gx]; exact ro_part14n (l := l) (y := 0) (z := 0) (cv := 0) hb hc hn1 (bne_iff_ne.2 gx)
      · -- 64
        have hn2 : 1 < n := by
          rcases Nat.lt_or_ge 1 n with h1 | h1
          · exact h1
          · exact absurd (.inl ⟨.inr (.inr rfl), by omega⟩) s
        have hc1 := h.cell (i := 1) (by omega)
        have hcm := Lib.hid (fun w => ref_cmd_is (l.getD 1 0) w hy)
        have hcap := h.cap
        rw [if_neg (by omega)] at hcut
        simp only [Option.map_some, Addr.add] at hcut
        show Calls _ _ _ _ (ActRet w (outsOf l))
        have hlen : ¬ l.length < 2 := by omega
        cases hq : cmdOf (l.getD 1 0) with
        | none =>
          have e2 : refCmd (l.getD 1 0) = -1 := by unfold refCmd; rw [hq]
          rw [e2] at hcm
          rw [show outsOf l = (zAct, 4) by unfold outsOf; rw [if_neg hlen, hq]]
          exact ro_o4 (l := l) (z := 0) hb hc hc1 hn2 hcm (.inl (by omega))
        | some k =>
          have e2 : refCmd (l.getD 1 0) = (k : Int) := by unfold refCmd; rw [hq]
          rw [e2] at hcm
          by_cases g : k ≤ 4
          · have e : outsOf l = partOf ⟨9, 0, 0, false, 0, [], l.drop 1⟩ l 0 := by
              unfold outsOf
              rw [if_neg hlen, hq]
              exact if_pos g
            rw [e]
            unfold partOf
            by_cases gx : l.getD 0 0 = 0
            · rw [if_pos gx]; exact ro_o1 (z := 0) hb hc hc1 hn2 hcm (by omega) (by omega) hcap (Lib.hid hcut) (Lib.hid hl) gx
            · rw [if_neg gx]; exact ro_o2 (z := 0) hb hc hc1 hn2 hcm (by omega) (by omega) hcap (Lib.hid hcut) (Lib.hid hl) (bne_iff_ne.2 gx)
          · rw [show outsOf l = (zAct, 4) by unfold outsOf; rw [if_neg hlen, hq]; exact if_neg g]
            exact ro_o4 (l := l) (z := 0) hb hc hc1 hn2 hcm (.inr ⟨by omega, by omega⟩)
    · have e : actOf id l = (zAct, 10) := by unfold actOf; rw [if_neg (by omega), if_neg (by omega), if_neg (by omega), if_neg (by omega), if_neg (by omega), if_neg (by omega), if_neg (by omega)]
      rw [e]
      exact ro_none (beq_eq_false_iff_ne.2 (by omega)) (beq_eq_false_iff_ne.2 (by omega)) (beq_eq_false_iff_ne.2 (by omega)) (beq_eq_false_iff_ne.2 (by omega)) (beq_eq_false_iff_ne.2 (by omega)) (beq_eq_false_iff_ne.2 (by omega)) (beq_eq_false_iff_ne.2 (by omega))
end Go.Proofs.YtfambgigdhkiaaaDoor
