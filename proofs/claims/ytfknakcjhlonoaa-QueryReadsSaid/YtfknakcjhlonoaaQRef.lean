/-
  The reference's replies: the data of all replies in what came, or the error. No condition but the slice's own reach.
-/
import Derived.Test.YtfknakcjhlonoaaQPl
import Derived.Test.YtfknakcjhlonoaaRAll
import Derived.Deep.CutRange
namespace Go.Proofs.Ytfknakcjhlonoaa
open Go.RowKit
set_option linter.unusedVariables false
set_option linter.unusedSimpArgs false

def RF.in1 (x : RF) : Inn := (x.A, x.c, x.l)
def RRS (B0 : Nat) (w1 : World) (xs : List RF) (j : Nat) (A : Option Addr) (c : Nat) (ys : List Inn) (wr : World) : Prop :=
  (wr.ownsRow w1.heap.size 22 1 (.slice A ys.length c) ys.length (ys.flatMap BS.cells) ∧ ys.length ≤ c ∧ c ≤ maxLen ∧ ∀ x ∈ ys, Sl B0 wr x.1 x.2.2.length x.2.1 x.2.2) ∧ ys = (xs.take j).map RF.in1 ∧ (∀ x ∈ xs.take j, badR x.bare = false) ∧ Up w1 wr
theorem in1_lst (xs : List RF) : (xs.map RF.in1).map (·.2.2) = (xs.map RF.bare).map (·.2) := by simp [RF.in1, RF.bare, Function.comp_def]
set_option maxRecDepth 100000 in
set_option maxHeartbeats 6400000 in
theorem rrep_in {B b off m c : Nat} {l : List Int} {w : World} (h : Sl B w (some ⟨b, off, none⟩) (m + 1) c l) (h0 : l.getD 0 0 = 136) :
    Calls Try.prog 29 #[.slice (some ⟨b, off, none⟩) (m + 1) c] w (RepPost w (repsR (fldsOf (l.drop 1)).1 (fldsOf (l.drop 1)).2)) := by
  obtain ⟨i0, hi, hz0, hz1, hz2⟩ := info_parts info_bb
  have hcell := h.cell (i := 0) (by omega)
  have hbw : b < w.heap.size := h.lt rfl
  rw [h0, Nat.add_zero] at hcell
  have hm0 : ((m : Int) + 1 == 0) = false := by simp; omega
  have hcap := h.cap
  have hmx := h.mx
  have hsm := h.small
  have hcm : (c : Int) ≤ 9223372036854775807 := by simp [maxLen] at hmx; omega
  have hcut := h.cut (k := 1) (by omega)
  obtain ⟨l1, hl1⟩ : ∃ l1, l.drop 1 = l1 := ⟨_, rfl⟩
  rw [hl1] at hcut ⊢
  obtain ⟨R, hR⟩ : ∃ R, repsR (fldsOf l1).1 (fldsOf l1).2 = R := ⟨_, rfl⟩
  rw [hR]
  have HS := Lib.hid hcut
  have HR0 := Lib.hid hR
  clear hcut hl1 hR
  clear h h0 hmx
  go_enter Try.func29, Try.ntmps29
  go_upto_region 5 with (fail)
  go_cut [4, 5] from 16 to 21 (fun v4 v5 w1 => ∃ AF cF xs, v4 = .slice AF (List.length xs) cF ∧ v5 = .int .i64 (fldsOf l1).2 ∧ FL 97 2 RF.cells RF.inn w.heap.size w1 AF cF xs ∧ xs.map RF.bare = (fldsOf l1).1 ∧ Up w w1)
  case first =>
    by_cases hc1 : c = 1
    · have hs := HS.out
      rw [if_pos hc1] at hs
      have hm0 : m = 0 := by omega
      subst hc1
      subst hm0
      simp only [Nat.add_sub_cancel, Nat.sub_self] at hs
      have HS1 := Lib.hid hs
      clear hs HS
      go_wp2_with fail
      refine (rall_is HS1.out).mono ?_
      rintro e w1 ⟨AF, cF, xs, rfl, hfl, hmap, hu1⟩
      have HF := Lib.hid hfl
      have HM := Lib.hid hmap
      have HU := Lib.hid hu1
      clear hfl hmap hu1
      go_wp2_with fail
      go_meet
      case rel => exact ⟨AF, cF, xs, rfl, rfl, HF.out, HM.out, HU.out⟩
    · have hs := HS.out
      rw [if_neg hc1] at hs
      have HS1 := Lib.hid (show Sl B w (some ⟨b, off + 1, none⟩) m (c - 1) l1 from hs)
      clear hs HS
      go_wp2_with fail
      refine (rall_is HS1.out).mono ?_
      rintro e w1 ⟨AF, cF, xs, rfl, hfl, hmap, hu1⟩
      have HF := Lib.hid hfl
      have HM := Lib.hid hmap
      have HU := Lib.hid hu1
      clear hfl hmap hu1
      go_wp2_with fail
      go_meet
      case rel => exact ⟨AF, cF, xs, rfl, rfl, HF.out, HM.out, HU.out⟩
  case rest =>
    obtain ⟨AF, cF, xs, rfl, rfl, hfl, hmap, hu1⟩ := hcut
    obtain ⟨ge, hge⟩ : ∃ ge, (fldsOf l1).2 = ge := ⟨_, rfl⟩
    rw [hge]
    have HF := Lib.hid hfl
    have HMP := Lib.hid hmap
    have HU1 := Lib.hid hu1
    obtain ⟨w1, hw1⟩ : ∃ w1, wc = w1 := ⟨_, rfl⟩
    subst hw1
    obtain ⟨N, hN⟩ : ∃ N, xs.length = N := ⟨_, rfl⟩
    have hN6 : N ≤ 65536 := by
      have h1 := congrArg List.length hmap
      rw [List.length_map] at h1
      have h2 := upTo_len (items l1)
      have h3 := items_len l1.length l1 (Nat.le_refl _)
      have h4 := HS.out.len
      have h5 : (fldsOf l1).1.length ≤ (items l1).length := h2
      have h6 : (items l1).length ≤ l1.length := h3
      omega
    rw [hN]
    have HN := Lib.hid hN
    have HR := Lib.hid (show repsR (fldsOf l1).1 ge = R by rw [← hge]; exact HR0.out)
    clear hfl hmap hu1 hge hN hsm HR0
    go_wp2_with fail
    go_loopw [6, 24] (fun v i wr => ∃ (j : Nat) (A1 : Option Addr) (c1 m1 : Nat) (ys : List Inn), i = .int .i64 (j : Int) ∧ v = .slice A1 m1 c1 ∧ ys.length = m1 ∧ m1 = j ∧ j ≤ N ∧ RRS w.heap.size wc xs j A1 c1 ys wr) (fun _ i _ => N - (intOf i).toNat)
    case atStart => exact ⟨0, none, 0, 0, [], rfl, rfl, rfl, rfl, Nat.zero_le _, ⟨World.ownsRow_nil _ _ _ _, Nat.le_refl _, by simp [maxLen], (by simp)⟩, rfl, (by simp), Up.refl _⟩
    case round =>
      obtain ⟨j, A1, c1, m1, ys, rfl, rfl, hm1, hmj, hj, hfl, hy, hok, hup⟩ := hrel
      have HM1 := Lib.hid hm1
      have HMJ := Lib.hid hmj
      have HFL := Lib.hid hfl
      have HY := Lib.hid hy
      have HOK := Lib.hid hok
      have HUP := Lib.hid hup
      have hq1 : m1 + 1 ≤ maxLen := by simp [maxLen]; omega
      have hq2 : (m1 + 1) * 24 ≤ 140737488355328 := by omega
      clear hm1 hmj hfl hy hok hup
      by_cases hlt : j < N
      · obtain ⟨x, hx⟩ : ∃ x, xs[j]? = some x := ⟨_, List.getElem?_eq_getElem (by have := HN.out; omega)⟩
        obtain ⟨bf, rfl, hbf, x0, x1, sx⟩ := rf_at (HF.out.up HUP.out) hx
        have HX := Lib.hid hx
        have SX := Lib.hid sx
        have hxl : (x.l.length : Int) ≤ 65536 := by have := sx.small; omega
        clear sx hx
        have hlt' : (j : Int) < N := by omega
        have hown := Lib.hid (show wr.ownsRow wc.heap.size 22 1 (.slice A1 m1 c1) m1 (ys.flatMap BS.cells) from by have := HFL.out.1; rw [HM1.out] at this; exact this)
        have hwr : wc.heap.size ≤ wr.heap.size := HUP.out.size
        by_cases hb : badR x.bare = true
        · have HB := Lib.hid hb
          have hbad : ((x.id != 129) = true) ∨ ((x.id != 129) = false ∧ ((x.l.length : Int) == 0) = true) := by
            unfold badR RF.bare at hb
            cases h1 : (x.id != 129)
            · rw [h1] at hb; right; exact ⟨rfl, by simpa using hb⟩
            · left; rfl
          have hAny : R = ([], 4) := by
            have hm : x.bare ∈ xs.map RF.bare := List.mem_map.2 ⟨x, List.mem_of_getElem? HX.out, rfl⟩
            rw [HMP.out] at hm
            have : (fldsOf l1).1.any badR = true := List.any_eq_true.2 ⟨_, hm, hb⟩
            rw [← HR.out]
            unfold repsR
            rw [if_pos this]
          have HA := Lib.hid hAny
          clear hb hAny
          rcases hbad with h1 | ⟨h1, h2⟩
          all_goals
            go_wp2_with fail
            go_ret2
            rw [HA.out]
            exact RepPost.none_ rfl ((HU1.out.trans HUP.out).trans (by (repeat (first | with_reducible exact Up.refl _ | with_reducible refine Up.alloc ?_ _ | with_reducible refine Up.drew ?_ | with_reducible refine Up.drewN ?_ _ | with_reducible refine Up.setCell ?_ (by (try simp) <;> omega) _ | with_reducible assumption | with_reducible refine Up.trans ?_ (by assumption)))))
        · have hb' : badR x.bare = false := by simpa using hb
          have h12 : (x.id != 129) = false ∧ ((x.l.length : Int) == 0) = false := by
            unfold badR RF.bare at hb'
            simp only [Bool.or_eq_false_iff] at hb'
            refine ⟨hb'.1, ?_⟩
            have := hb'.2
            simp at this ⊢
            exact this
          obtain ⟨h1, h2⟩ := h12
          have HB := Lib.hid hb'
          clear hb hb'
          go_wp2_with (at_builtin; refine wpList_app _ rfl (.tmp 37) (.tmp 40) 55 rfl wc.heap.size 22 i0 _ 1 24 Try.underlying55 hi hz0 hz1 hz2 rfl (by decide) A1 m1 c1 (ys.flatMap BS.cells) rfl (own_up hown.out (((Up.refl wr).alloc _).alloc _)) ((wr.alloc (.cells #[.int .u8 x.id, .slice x.A x.l.length x.c] 97)).heap.size + 1) (some ⟨wr.heap.size + 1, 0, none⟩) 1 1 [.slice x.A x.l.length x.c] rfl (reads_at (wr.alloc (.cells #[.int .u8 x.id, .slice x.A x.l.length x.c] 97)) (wr.heap.size + 1) 1 1 _ _ rfl (by simp)) (by simp [Value.oneCell']) hq1 hq2 (by simp; omega) ?_; intro A3 c3 w5 hown5 hg5 hle5 hmx5 hbl5; have HO5 := Lib.hid hown5; have HG5 := Lib.hid hg5; have HB5 := Lib.hid hbl5; clear hown5 hg5 hbl5)
          go_roundw
          case rel =>
            have hm := HM1.out
            subst hm
            have hup5 : Up wr ((wr.alloc (.cells #[.int .u8 x.id, .slice x.A x.l.length x.c] 97)).alloc (.cells #[.slice x.A x.l.length x.c] 22)) := ((Up.refl wr).alloc _).alloc _
            refine ⟨j + 1, A3, c3, ys.length + 1, ys ++ [RF.in1 x], by first | rfl | go_num, rfl, by simp, by rw [HMJ.out], by omega, ?_, ?_, ?_, (HUP.out.trans hup5).past HB5.out⟩
            · refine ⟨?_, by simpa using hle5, hmx5, fun y hy => ?_⟩
              · have := HO5.out
                rw [List.length_append, List.flatMap_append]
                simpa [BS.cells, RF.in1] using this
              · have ho := own_up HFL.out.1 hup5
                rcases List.mem_append.1 hy with hy | hy
                · exact ((HFL.out.2.2.2 y hy).up hup5).grown ne_bb ho HG5.out
                · rw [List.mem_singleton.1 hy]
                  exact (SX.out.up hup5).grown ne_bb ho HG5.out
            · rw [take_snoc HX.out, List.map_append, HY.out]
              rfl
            · intro y hy
              rw [take_snoc HX.out] at hy
              rcases List.mem_append.1 hy with hy | hy
              · exact HOK.out y hy
              · rw [List.mem_singleton.1 hy]; exact HB.out
          case measure => simp [intOf]; omega
      · obtain rfl : j = N := by omega
        have hxs : xs.take j = xs := List.take_of_length_le (by rw [HN.out]; exact Nat.le_refl _)
        have hany : (fldsOf l1).1.any badR = false := by
          rw [← HMP.out, List.any_eq_false]
          intro y hy
          obtain ⟨x, hx, rfl⟩ := List.mem_map.1 hy
          have := HOK.out x (by rw [hxs]; exact hx)
          rw [this]; simp
        have hRe : R = if ge ≠ 0 then ([], ge) else ((fldsOf l1).1.map (·.2), 0) := by
          rw [← HR.out]
          unfold repsR
          rw [if_neg (by rw [hany]; simp)]
        have HRE := Lib.hid hRe
        clear hRe hany
        by_cases hg : ge = 0
        · have e1 : (ge != 0) = false := by simpa using hg
          have HG := Lib.hid hg
          clear hg
          go_wp2_with fail
          go_ret2
          rw [HRE.out, if_neg (by rw [HG.out]; simp)]
          refine ⟨A1, c1, ys, by rw [HM1.out]; rfl, ⟨own_base HFL.out.1 HU1.out.size, HFL.out.2.1, HFL.out.2.2.1, fun x hx s hs => by rw [List.mem_singleton.1 hs]; exact HFL.out.2.2.2 x hx⟩, ?_, HU1.out.trans HUP.out⟩
          rw [HY.out, hxs, in1_lst, HMP.out]
        · have e1 : (ge != 0) = true := by simpa using hg
          have HG := Lib.hid hg
          clear hg
          go_wp2_with fail
          go_ret2
          rw [HRE.out, if_pos HG.out]
          exact RepPost.none_ rfl (HU1.out.trans HUP.out)
/-- the reference's replies -/
theorem rrep_is {B n c : Nat} {A : Option Addr} {l : List Int} {w : World} (h : Sl B w A n c l) :
    Calls Try.prog 29 #[.slice A n c] w (RepPost w (repsOf l)) := by
  have hl := h.len
  cases n with
  | zero =>
    have e : repsOf l = ([], 2) := by unfold repsOf; rw [if_pos hl]
    rw [e]
    clear h hl e
    go_enter Try.func29, Try.ntmps29
    go_wp2_with fail
    go_ret2
    exact RepPost.none_ rfl (Up.refl _)
  | succ m =>
    obtain ⟨b, off, rfl, hb⟩ := h.form (by omega)
    by_cases hv : l.getD 0 0 = 136
    · have e : repsOf l = repsR (fldsOf (l.drop 1)).1 (fldsOf (l.drop 1)).2 := by unfold repsOf; rw [if_neg (by omega), if_neg (by simpa using hv)]
      rw [e]
      exact rrep_in h hv
    · have e : repsOf l = ([], 4) := by unfold repsOf; rw [if_neg (by omega), if_pos hv]
      rw [e]
      have hcell := h.cell (i := 0) (by omega)
      obtain ⟨v, hvv⟩ : ∃ v, l.getD 0 0 = v := ⟨_, rfl⟩
      rw [hvv] at hcell hv
      rw [Nat.add_zero] at hcell
      have e1 : (v != 136) = true := by simpa using hv
      have hcm : (m + 1 : Nat) ≤ 65536 := h.small
      clear h hl e hv hvv
      go_enter Try.func29, Try.ntmps29
      go_wp2_with fail
      go_ret2
      exact RepPost.none_ rfl (Up.refl _)
end Go.Proofs.Ytfknakcjhlonoaa
