/-
  The law's same: a machine against the reference's. No condition.
-/
import Derived.Test.YtmnepolfiipfcaaEq08
import Derived.Test.YtmnepolfiipfcaaOpt9
import Derived.Test.YtmnepolfiipfcaaRef08b
import Derived.Test.YtmnepolfiipfcaaLaw08c
namespace Go.Proofs.Ytmnepolfiipfcaa
open Go.RowKit
set_option linter.unusedVariables false
set_option linter.unusedSimpArgs false

theorem agreed_at {b bm bw i : Nat} {S : Nat → Nat → Int} {G : Nat → Nat → Bool} {w : World} (hm : MAt w b S G) (hS : okS S) (hi : i < 2) (hb : b < w.heap.size) (hbm : bm < w.heap.size) (hbw : bw < w.heap.size)
    (h1 : w.cell? ⟨bm, 0, none⟩ = some (.pointer (some ⟨b, 0, none⟩))) (h2 : w.cell? ⟨bw, 0, none⟩ = some (.int .i64 (i : Int))) :
    ItFor Try.prog 37 #[.pointer (some ⟨bm, 0, none⟩), .pointer (some ⟨bw, 0, none⟩)] (fun x : Int => #[.int .u8 x]) (fun _ => False) (fun k => k = b ∨ k = bm ∨ k = bw) (fun pre x _ => pre ++ [x] <+: those (fun o => S i o == 1) 256) (· = those (fun o => S i o == 1) 256) (· <+: those (fun o => S i o == 1) 256) w := by
  refine agreed_it (.pointer (some ⟨b, 0, none⟩)) (.int .i64 (i : Int)) (fun o => S i o == 1) bm bw (fun k => k = b ∨ k = bm ∨ k = bw) w (by rintro k (rfl | rfl | rfl) <;> assumption) h1 h2 (.inr (.inl rfl)) (.inr (.inr rfl)) (fun W hW o ho => ?_)
  have hmW : MAt W b S G := by
    intro i' o' hi' ho'
    obtain ⟨⟨g1, g2⟩, g3, g4⟩ := hm i' o' hi' ho'
    have hc := World.cell?_of_block (w := w) (w' := W) (a := ⟨b, 512 * i' + o', none⟩) (hW b (.inl rfl))
    have hc' := World.cell?_of_block (w := w) (w' := W) (a := ⟨b, 512 * i' + 256 + o', none⟩) (hW b (.inl rfl))
    have hf := World.frozen?_of_block (w := w) (w' := W) (a := ⟨b, 512 * i' + o', none⟩) (hW b (.inl rfl))
    have hf' := World.frozen?_of_block (w := w) (w' := W) (a := ⟨b, 512 * i' + 256 + o', none⟩) (hW b (.inl rfl))
    exact ⟨⟨hc.trans g1, hf.trans g2⟩, hc'.trans g3, hf'.trans g4⟩
  exact on_at i o hmW hS hi ho rfl rfl rfl
def UptoAll (t : Bool) (S : Nat → Nat → Int) (i : Nat) : Prop := t = true ↔ ∀ i' o', i' < i → o' < 256 → S i' o' ≤ 1
def Upto (t' t : Bool) (f : Nat → Int) (o : Nat) : Prop := t' = true ↔ t = true ∧ ∀ o', o' < o → f o' ≤ 1
theorem upto_zero (t : Bool) (f : Nat → Int) : Upto t t f 0 := by simp [Upto]
theorem Upto.all {t t' : Bool} {S : Nat → Nat → Int} {i : Nat} (h : Upto t' t (S i) 256) (h0 : UptoAll t S i) : UptoAll t' S (i + 1) := by
  unfold Upto UptoAll at *
  rw [h, h0]
  constructor
  · rintro ⟨h1, h2⟩ i' o' hi ho
    rcases Nat.lt_or_ge i' i with hlt | hge
    · exact h1 i' o' hlt ho
    · obtain rfl : i' = i := by omega
      exact h2 o' ho
  · intro h3
    exact ⟨fun i' o' hi ho => h3 i' o' (by omega) ho, fun o' ho => h3 i o' (by omega) ho⟩
theorem upto_yes {t t' : Bool} {f : Nat → Int} {o : Nat} (h : Upto t' t f o) (hs : f o ≤ 1) : Upto t' t f (o + 1) := by
  unfold Upto at *
  rw [h]
  constructor
  · rintro ⟨h1, h2⟩
    refine ⟨h1, fun o' ho => ?_⟩
    rcases Nat.lt_or_ge o' o with hlt | hge
    · exact h2 o' hlt
    · obtain rfl : o' = o := by omega
      exact hs
  · rintro ⟨h1, h2⟩
    exact ⟨h1, fun o' ho => h2 o' (by omega)⟩
theorem upto_no {t : Bool} {f : Nat → Int} {o : Nat} (hs : ¬ f o ≤ 1) : Upto false t f (o + 1) := by
  unfold Upto
  constructor
  · intro h; cases h
  · rintro ⟨_, h2⟩; exact absurd (h2 o (by omega)) hs
set_option maxRecDepth 100000 in
set_option maxHeartbeats 6400000 in
theorem same08 (b x : Nat) (S : Nat → Nat → Int) (G G' : Nat → Nat → Bool) (w : World) (hm : MAt w b S G) (hx : RAt w x S G') (hS : okS S) (hb : b < w.heap.size) (hxb : x < w.heap.size) :
    Calls Try.prog 28 #[.pointer (some ⟨b, 0, none⟩), .pointer (some ⟨x, 0, none⟩)] w fun e w' => e = .returned (.bool true) ∧ Up w w' := by
  obtain ⟨i0, hi0, hz0, hz1, hz2⟩ := info_parts info_u8
  have HM := Lib.hid hm
  have HX := Lib.hid hx
  have HS := Lib.hid hS
  clear hm hx hS
  go_enter Try.func28, Try.ntmps28
  go_wp2_with fail
  go_loopw [5, 10] (fun qt q wr => ∃ (i : Nat) (t : Bool), i ≤ 2 ∧ q = .int .i64 (i : Int) ∧ qt = .bool t ∧ UptoAll t S i ∧ Up w wr) (fun _ q _ => 2 - (intOf q).toNat)
  case atStart => exact ⟨0, true, by omega, rfl, rfl, by simp [UptoAll], Up.refl w⟩
  case round =>
    obtain ⟨i, t, hi, rfl, rfl, hq, hu⟩ := hrel
    have HQ := Lib.hid hq
    clear hq
    by_cases hlt : i < 2
    · obtain ⟨wo, rfl⟩ : ∃ wo : World, wo = wr := ⟨_, rfl⟩
      have hd2 : decide ((i : Int) < 2) = true := by simp; omega
      go_wp2_with fail
      go_loopw [5, 7, 13] (fun qt v q wq => ∃ (o : Nat) (t' : Bool) (A : Option Addr) (m c : Nat), o ≤ 256 ∧ q = .int .i64 (o : Int) ∧ qt = .bool t' ∧ v = .slice A m c ∧ m = (those (fun o => S i o == 1) o).length ∧ Upto t' t (S i) o ∧ wq.ownsRow wo.heap.size 5 1 (.slice A m c) m (bs (those (fun o => S i o == 1) o)) ∧ Up wo wq) (fun _ _ q _ => 256 - (intOf q).toNat)
      case atStart => exact ⟨0, t, none, 0, 0, by omega, rfl, rfl, rfl, rfl, upto_zero _ _, ⟨rfl, .inl ⟨rfl, rfl⟩⟩, Up.refl wo⟩
      case round =>
        obtain ⟨o, t', A, m, c, ho, rfl, rfl, rfl, hmm, hq', hown, huq⟩ := hrel
        have hmb : m ≤ 256 := by rw [hmm]; exact Nat.le_trans (those_len _ _) ho
        have HMM := Lib.hid hmm
        have HQ' := Lib.hid hq'
        have HO := Lib.hid hown
        clear hmm hq' hown
        by_cases hlo : o < 256
        · have hMq := Lib.hid (HM.out.up (hu.trans huq) hb)
          obtain ⟨⟨y1, -⟩, -, -⟩ := (HX.out.up (hu.trans huq) hxb) i o hlt hlo
          have y2 : wr.cell? ⟨x, i * 256 + o, none⟩ = some (.int .i64 (S i o)) := by rw [Nat.mul_comm]; exact y1
          obtain ⟨hs0, hs5⟩ := HS.out i o
          have hi2 : (i : Int) < 2 := by omega
          have ho2 : (o : Int) < 256 := by omega
          have hsu := those_succ (fun o => S i o == 1) o
          obtain ⟨s, hs⟩ : ∃ s, S i o = s := ⟨_, rfl⟩
          rw [hs] at y1 y2 hs0 hs5 hsu
          have HSE := Lib.hid hs
          have HSU := Lib.hid hsu
          clear hs hsu
          rcases (show s = 1 ∨ s = 0 ∨ 2 ≤ s by omega) with rfl | rfl | h2
          · cases t'
            · skip
              have q1 : m + 1 ≤ maxLen := by simp [maxLen]; omega
              have q2 : (m + 1) * 1 ≤ 140737488355328 := by omega
              have q3 : wo.heap.size ≤ (wr.alloc (.cells #[.int .u8 (o : Int)] 5)).heap.size := by have := huq.size; simp; omega
              have Q1 := Lib.hid q1
              have Q2 := Lib.hid q2
              have Q3 := Lib.hid q3
              clear q1 q2 q3
              go_wp2_with (at_builtin; refine wpList_app _ rfl (.tmp 31) (.tmp 34) 22 rfl wo.heap.size 5 i0 _ 1 1 Try.underlying22 hi0 hz0 hz1 hz2 rfl (by decide) A m c (bs (those (fun o => S i o == 1) o)) rfl (HO.out.alloc _) (wr.heap.size + 1) (some ⟨wr.heap.size, 0, none⟩) 1 1 [.int .u8 (o : Int)] rfl (reads_at wr wr.heap.size 1 1 #[.int .u8 (o : Int)] _ rfl rfl) (one_u8 [(o : Int)]) Q1.out Q2.out Q3.out ?_; intro A1 c1 w1 hown1 hg1 hle1 hmx1 hbl1; have HO1 := Lib.hid hown1; have HUP := Lib.hid ((huq.alloc (.cells #[.int .u8 (o : Int)] 5)).past hbl1); clear hown1 hg1 hbl1)
              refine (state_at i o (HM.out.up (hu.trans HUP.out) hb) HS.out hlt hlo rfl rfl HSE.out).mono ?_
              rintro e w' ⟨rfl, rfl⟩
              go_wp2_with fail
              refine (on_at i o (HM.out.up (hu.trans HUP.out) hb) HS.out hlt hlo rfl rfl (t := true) (by rw [HSE.out]; exact rfl)).mono ?_
              rintro e w' ⟨rfl, rfl⟩
              go_wp2
              go_roundw
              case rel => first | exact ⟨o + 1, false, A1, m + 1, c1, by omega, by go_num, rfl, rfl, by rw [HSU.out]; simp [HMM.out], upto_yes (f := S i) HQ'.out (by rw [HSE.out]; omega), by rw [HSU.out]; simpa [bs] using HO1.out, HUP.out⟩ | ((repeat apply Exists.intro); exact ⟨⟨o + 1, false, A1, m + 1, c1, by omega, by go_num, rfl, rfl, by rw [HSU.out]; simp [HMM.out], upto_yes (f := S i) HQ'.out (by rw [HSE.out]; omega), by rw [HSU.out]; simpa [bs] using HO1.out, HUP.out⟩, rfl⟩)
              case measure => simp [intOf]; omega
            · skip
              have q1 : m + 1 ≤ maxLen := by simp [maxLen]; omega
              have q2 : (m + 1) * 1 ≤ 140737488355328 := by omega
              have q3 : wo.heap.size ≤ (wr.alloc (.cells #[.int .u8 (o : Int)] 5)).heap.size := by have := huq.size; simp; omega
              have Q1 := Lib.hid q1
              have Q2 := Lib.hid q2
              have Q3 := Lib.hid q3
              clear q1 q2 q3
              go_wp2_with (at_builtin; refine wpList_app _ rfl (.tmp 31) (.tmp 34) 22 rfl wo.heap.size 5 i0 _ 1 1 Try.underlying22 hi0 hz0 hz1 hz2 rfl (by decide) A m c (bs (those (fun o => S i o == 1) o)) rfl (HO.out.alloc _) (wr.heap.size + 1) (some ⟨wr.heap.size, 0, none⟩) 1 1 [.int .u8 (o : Int)] rfl (reads_at wr wr.heap.size 1 1 #[.int .u8 (o : Int)] _ rfl rfl) (one_u8 [(o : Int)]) Q1.out Q2.out Q3.out ?_; intro A1 c1 w1 hown1 hg1 hle1 hmx1 hbl1; have HO1 := Lib.hid hown1; have HUP := Lib.hid ((huq.alloc (.cells #[.int .u8 (o : Int)] 5)).past hbl1); clear hown1 hg1 hbl1)
              refine (state_at i o (HM.out.up (hu.trans HUP.out) hb) HS.out hlt hlo rfl rfl HSE.out).mono ?_
              rintro e w' ⟨rfl, rfl⟩
              go_wp2_with fail
              refine (on_at i o (HM.out.up (hu.trans HUP.out) hb) HS.out hlt hlo rfl rfl (t := true) (by rw [HSE.out]; exact rfl)).mono ?_
              rintro e w' ⟨rfl, rfl⟩
              go_wp2
              go_roundw
              case rel => first | exact ⟨o + 1, true, A1, m + 1, c1, by omega, by go_num, rfl, rfl, by rw [HSU.out]; simp [HMM.out], upto_yes (f := S i) HQ'.out (by rw [HSE.out]; omega), by rw [HSU.out]; simpa [bs] using HO1.out, HUP.out⟩ | ((repeat apply Exists.intro); exact ⟨⟨o + 1, true, A1, m + 1, c1, by omega, by go_num, rfl, rfl, by rw [HSU.out]; simp [HMM.out], upto_yes (f := S i) HQ'.out (by rw [HSE.out]; omega), by rw [HSU.out]; simpa [bs] using HO1.out, HUP.out⟩, rfl⟩)
              case measure => simp [intOf]; omega
          · cases t'
            · skip
              go_wp2_with fail
              refine (state_at i o hMq.out HS.out hlt hlo rfl rfl HSE.out).mono ?_
              rintro e w' ⟨rfl, rfl⟩
              go_wp2_with fail
              refine (on_at i o hMq.out HS.out hlt hlo rfl rfl (t := false) (by rw [HSE.out]; exact rfl)).mono ?_
              rintro e w' ⟨rfl, rfl⟩
              go_wp2
              go_roundw
              case rel => first | exact ⟨o + 1, false, A, m, c, by omega, by go_num, rfl, rfl, by rw [HSU.out, if_neg (by first | (simp; done) | (simp; omega))]; exact HMM.out, upto_yes (f := S i) HQ'.out (by rw [HSE.out]; omega), by rw [HSU.out, if_neg (by first | (simp; done) | (simp; omega))]; exact HO.out, huq⟩ | ((repeat apply Exists.intro); exact ⟨⟨o + 1, false, A, m, c, by omega, by go_num, rfl, rfl, by rw [HSU.out, if_neg (by first | (simp; done) | (simp; omega))]; exact HMM.out, upto_yes (f := S i) HQ'.out (by rw [HSE.out]; omega), by rw [HSU.out, if_neg (by first | (simp; done) | (simp; omega))]; exact HO.out, huq⟩, rfl⟩)
              case measure => simp [intOf]; omega
            · skip
              go_wp2_with fail
              refine (state_at i o hMq.out HS.out hlt hlo rfl rfl HSE.out).mono ?_
              rintro e w' ⟨rfl, rfl⟩
              go_wp2_with fail
              refine (on_at i o hMq.out HS.out hlt hlo rfl rfl (t := false) (by rw [HSE.out]; exact rfl)).mono ?_
              rintro e w' ⟨rfl, rfl⟩
              go_wp2
              go_roundw
              case rel => first | exact ⟨o + 1, true, A, m, c, by omega, by go_num, rfl, rfl, by rw [HSU.out, if_neg (by first | (simp; done) | (simp; omega))]; exact HMM.out, upto_yes (f := S i) HQ'.out (by rw [HSE.out]; omega), by rw [HSU.out, if_neg (by first | (simp; done) | (simp; omega))]; exact HO.out, huq⟩ | ((repeat apply Exists.intro); exact ⟨⟨o + 1, true, A, m, c, by omega, by go_num, rfl, rfl, by rw [HSU.out, if_neg (by first | (simp; done) | (simp; omega))]; exact HMM.out, upto_yes (f := S i) HQ'.out (by rw [HSE.out]; omega), by rw [HSU.out, if_neg (by first | (simp; done) | (simp; omega))]; exact HO.out, huq⟩, rfl⟩)
              case measure => simp [intOf]; omega
          · cases t'
            · skip
              have e1 : (s == 1) = false := by simp; omega
              have e2 : ¬ (s < 2) := by omega
              go_wp2_with fail
              refine (state_at i o hMq.out HS.out hlt hlo rfl rfl HSE.out).mono ?_
              rintro e w' ⟨rfl, rfl⟩
              go_wp2_with fail
              refine (on_at i o hMq.out HS.out hlt hlo rfl rfl (t := false) (by rw [HSE.out]; exact (by simp; omega))).mono ?_
              rintro e w' ⟨rfl, rfl⟩
              go_wp2
              go_roundw
              case rel => first | exact ⟨o + 1, false, A, m, c, by omega, by go_num, rfl, rfl, by rw [HSU.out, if_neg (by first | (simp; done) | (simp; omega))]; exact HMM.out, upto_no (f := S i) (by rw [HSE.out]; omega), by rw [HSU.out, if_neg (by first | (simp; done) | (simp; omega))]; exact HO.out, huq⟩ | ((repeat apply Exists.intro); exact ⟨⟨o + 1, false, A, m, c, by omega, by go_num, rfl, rfl, by rw [HSU.out, if_neg (by first | (simp; done) | (simp; omega))]; exact HMM.out, upto_no (f := S i) (by rw [HSE.out]; omega), by rw [HSU.out, if_neg (by first | (simp; done) | (simp; omega))]; exact HO.out, huq⟩, rfl⟩)
              case measure => simp [intOf]; omega
            · skip
              have e1 : (s == 1) = false := by simp; omega
              have e2 : ¬ (s < 2) := by omega
              go_wp2_with fail
              refine (state_at i o hMq.out HS.out hlt hlo rfl rfl HSE.out).mono ?_
              rintro e w' ⟨rfl, rfl⟩
              go_wp2_with fail
              refine (on_at i o hMq.out HS.out hlt hlo rfl rfl (t := false) (by rw [HSE.out]; exact (by simp; omega))).mono ?_
              rintro e w' ⟨rfl, rfl⟩
              go_wp2
              go_roundw
              case rel => first | exact ⟨o + 1, false, A, m, c, by omega, by go_num, rfl, rfl, by rw [HSU.out, if_neg (by first | (simp; done) | (simp; omega))]; exact HMM.out, upto_no (f := S i) (by rw [HSE.out]; omega), by rw [HSU.out, if_neg (by first | (simp; done) | (simp; omega))]; exact HO.out, huq⟩ | ((repeat apply Exists.intro); exact ⟨⟨o + 1, false, A, m, c, by omega, by go_num, rfl, rfl, by rw [HSU.out, if_neg (by first | (simp; done) | (simp; omega))]; exact HMM.out, upto_no (f := S i) (by rw [HSE.out]; omega), by rw [HSU.out, if_neg (by first | (simp; done) | (simp; omega))]; exact HO.out, huq⟩, rfl⟩)
              case measure => simp [intOf]; omega
        · obtain rfl : o = 256 := by omega
          obtain ⟨L, hL⟩ : ∃ L, those (fun o => S i o == 1) 256 = L := ⟨_, rfl⟩
          have hmL : m = L.length := by rw [HMM.out, hL]
          have hlL : L.length ≤ 256 := by rw [← hL]; exact those_len _ _
          have hOL := HO.out
          rw [hL] at hOL
          subst hmL
          have HLL := Lib.hid hL
          have HOL := Lib.hid hOL
          have hul : Up w wr := hu.trans huq
          clear hL hOL HO HMM hd2
          go_wp2_with fail
          refine (agreed_is _ _ _).mono ?_
          rintro e wb ⟨bm, bw, rfl, z1, z2, m1, m2, ub⟩
          have hit := agreed_at (HM.out.up (hul.trans ub) hb) HS.out hlt (by have := (hul.trans ub).size; omega) z1 z2 m1 m2
          rw [HLL.out] at hit
          have HI := Lib.hid hit
          have hbb : b < wb.heap.size := by have := (hul.trans ub).size; omega
          clear hit m1 m2
          go_wp2_with fail
          refine (collect_u8 L enters_agreed (fun _ h => h.elim) (by rintro k (rfl | rfl | rfl) <;> assumption) (by omega) HI.out).mono ?_
          rintro e wc ⟨A1, c1, rfl, hown1, hle1, hmx1, hk⟩
          have huc : Up wb wc := hk.upto (fun _ h => h.elim)
          have HO1 := Lib.hid hown1
          clear hown1 hk
          go_wp2_with fail
          refine (eqb_yes _ _ _ _ _ L _ (Reads.of_own HO1.out) ((Reads.of_own HOL.out).up (ub.trans huc)) (by omega)).mono ?_
          rintro e wd ⟨rfl, ud⟩
          go_wp2_with fail
          go_roundw
          case rel => first | exact ⟨i + 1, t', by omega, by go_num, rfl, HQ'.out.all HQ.out, (hul.trans ub).trans (huc.trans ud)⟩ | ((repeat apply Exists.intro); exact ⟨⟨i + 1, t', by omega, by go_num, rfl, HQ'.out.all HQ.out, (hul.trans ub).trans (huc.trans ud)⟩, rfl⟩)
          case measure => simp [intOf]; omega
    · obtain rfl : i = 2 := by omega
      go_wp2_with fail
      refine (quiet_is b S G _ (HM.out.up hu hb)).mono ?_
      rintro e wq ⟨⟨tq, rfl, hq⟩, uq⟩
      obtain rfl : tq = t := by
        have h1 := HQ.out
        unfold UptoAll at h1
        rw [Bool.eq_iff_iff, h1, hq]
      clear hq
      cases tq
      all_goals
        go_wp2_with fail
        refine (state_side (some ⟨b, 0, none⟩) 2 0 _ (by simp) (by decide) (by decide)).mono ?_
        rintro e w' ⟨rfl, rfl⟩
        go_wp2_with fail
        refine (on_of (state_side (some ⟨b, 0, none⟩) (-1) 0 _ (by simp) (by decide) (by decide)) (b := false) rfl).mono ?_
        rintro e w' ⟨rfl, rfl⟩
        go_wp2_with fail
        go_ret
        exact ⟨rfl, hu.trans uq⟩
end Go.Proofs.Ytmnepolfiipfcaa
