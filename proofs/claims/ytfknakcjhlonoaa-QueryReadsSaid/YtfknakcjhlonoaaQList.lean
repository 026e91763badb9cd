/-
  query.List: of these codes. Conditions: a Query List that lists, a model, a page or none.
-/
import Derived.Test.YtfknakcjhlonoaaQIdx
namespace Go.Proofs.Ytfknakcjhlonoaa
open Go.RowKit
set_option linter.unusedVariables false
set_option linter.unusedSimpArgs false

def inL (l : List Int) (c : Int) : Bool := decide (c ∈ l)
theorem flt_snoc {l : List Int} {j : Nat} {x : Int} (h : codesL[j]? = some x) : (codesL.take (j + 1)).filter (inL l) = (codesL.take j).filter (inL l) ++ (if x ∈ l then [x] else []) := by
  rw [take_snoc h, List.filter_append]
  congr 1
  unfold inL
  by_cases hx : x ∈ l <;> simp [hx]
set_option maxRecDepth 100000 in
set_option maxHeartbeats 6400000 in
theorem qlist_is {B n c : Nat} {A : Option Addr} {l : List Int} (m rows cols k : Int) (pv : Value) (w : World) (h : Sl B w A n c l) (hA : ∀ p, A = some p → ∃ b off, p = ⟨b, off, none⟩) (hm : isMod m rows cols) (hp : PgV w pv k) (hk : 0 ≤ k ∧ k ≤ 65535) :
    Calls Try.prog 14 #[.int .u8 0, .slice A n c, .int .i64 m, pv] w (SPost w (someL rows cols k (codesL.filter (inL l)))) := by
  obtain ⟨i0, hi, hz0, hz1, hz2⟩ := info_parts info_u8
  have HS := Lib.hid h
  have HA := Lib.hid hA
  have HM := Lib.hid hm
  have HP := Lib.hid hp
  have HK := Lib.hid hk
  clear h hA hm hp hk
  go_enter Try.func14, Try.ntmps14
  go_wp2_with fail
  refine (qcodes_is _).mono ?_
  rintro e w1 ⟨AC, cC, rfl, hsc, hu1⟩
  obtain ⟨gC, oC, rfl, hgC⟩ := hsc.form (by decide)
  have HC := Lib.hid hsc
  have HU1 := Lib.hid hu1
  have hlen7 : codesL.length = 7 := rfl
  rw [hlen7] at HC
  rw [hlen7]
  clear hsc hu1 hlen7
  go_wp2_with fail
  go_loopw [9, 19] (fun v i wr => ∃ (j : Nat) (A1 : Option Addr) (c1 m1 : Nat), i = .int .i64 (j : Int) ∧ v = .slice A1 m1 c1 ∧ j ≤ 7 ∧ m1 = ((codesL.take j).filter (inL l)).length ∧ wr.ownsRow w1.heap.size 5 1 (.slice A1 m1 c1) m1 (bs ((codesL.take j).filter (inL l))) ∧ m1 ≤ c1 ∧ c1 ≤ maxLen ∧ Up w1 wr) (fun _ i _ => 7 - (intOf i).toNat)
  case atStart => exact ⟨0, none, 0, 0, rfl, rfl, Nat.zero_le _, rfl, World.ownsRow_nil _ _ _ _, Nat.le_refl _, by simp [maxLen], Up.refl _⟩
  case round =>
    obtain ⟨j, A1, c1, m1, rfl, rfl, hj, hm1, hown, hle, hmx, hup⟩ := hrel
    have HOW := Lib.hid hown
    have HUP := Lib.hid hup
    have HM1 := Lib.hid hm1
    have hwr : w1.heap.size ≤ wr.heap.size := hup.size
    have hm7 : m1 ≤ 7 := by
      rw [hm1]
      refine Nat.le_trans (List.length_filter_le _ _) ?_
      rw [List.length_take]
      omega
    clear hown hup hm1
    by_cases hlt : j < 7
    · have x0 := (HC.out.up HUP.out).cell (i := j) hlt
      have hxj : codesL[j]? = some (codesL.getD j 0) := by
        rw [List.getD_eq_getElem?_getD]
        have : j < codesL.length := hlt
        simp [this]
      obtain ⟨x, hx⟩ : ∃ x, codesL.getD j 0 = x := ⟨_, rfl⟩
      rw [hx] at x0 hxj
      have hxb := codes_bd x (List.mem_of_getElem? hxj)
      have HSN := Lib.hid (flt_snoc (l := l) hxj)
      have HIDX := Lib.hid (fun W (h : Sl B W A n c l) => idx_is (w := W) h HA.out hxb)
      have hgr : gC < wr.heap.size := by have := HUP.out.size; omega
      have hq1 : m1 + 1 ≤ maxLen := by simp [maxLen]; omega
      have hq2 : (m1 + 1) * 1 ≤ 140737488355328 := by omega
      have hlt' : (j : Int) < 7 := by omega
      clear hx hxj hxb
      by_cases hmem : x ∈ l
      · have HMEM := Lib.hid hmem
        clear hmem
        go_wp2_with (first | (go_at_call 28; refine (HIDX.out _ (HS.out.up (HU1.out.trans HUP.out))).mono ?_; rintro e w' ⟨i, rfl, hi5, hi6, rfl⟩; have hi7 : 0 ≤ i := hi5.2 HMEM.out; clear hi5) | (at_builtin; refine wpList_app _ rfl (.tmp 27) (.tmp 29) 22 rfl w1.heap.size 5 i0 _ 1 1 Try.underlying22 hi hz0 hz1 hz2 rfl (by decide) A1 m1 c1 (bs ((codesL.take j).filter (inL l))) rfl (own_up HOW.out ((Up.refl _).alloc _)) (w'.heap.size + 1) (some ⟨w'.heap.size, 0, none⟩) 1 1 [.int .u8 x] rfl (reads_at w' w'.heap.size 1 1 _ _ rfl rfl) (by simp [Value.oneCell']) hq1 hq2 (by simp; omega) ?_; intro A3 c3 w5 hown5 hg5 hle5 hmx5 hbl5; have HO5 := Lib.hid hown5; have HB5 := Lib.hid hbl5; clear hown5 hg5 hbl5))
        go_roundw
        case rel =>
          have hup5 := HUP.out.alloc (.cells #[.int .u8 x] 5)
          have e8 : (codesL.take (j + 1)).filter (inL l) = (codesL.take j).filter (inL l) ++ [x] := by rw [HSN.out, if_pos HMEM.out]
          refine ⟨j + 1, A3, c3, m1 + 1, by go_num, rfl, by omega, by rw [e8, List.length_append, HM1.out]; rfl, ?_, hle5, hmx5, ?_⟩
          · rw [e8]
            have e9 : bs ((codesL.take j).filter (inL l) ++ [x]) = bs ((codesL.take j).filter (inL l)) ++ [.int .u8 x] := by simp [bs]
            rw [e9]
            exact HO5.out
          · exact hup5.past HB5.out
        case measure => simp [intOf]; omega
      · have HMEM := Lib.hid hmem
        clear hmem
        go_wp2_with (go_at_call 28; refine (HIDX.out _ (HS.out.up (HU1.out.trans HUP.out))).mono ?_; rintro e w' ⟨i, rfl, hi5, hi6, rfl⟩; have hi7 : i < 0 := Int.not_le.1 (fun h9 => HMEM.out (hi5.1 h9)); clear hi5)
        go_roundw
        case rel =>
          have e8 : (codesL.take (j + 1)).filter (inL l) = (codesL.take j).filter (inL l) := by rw [HSN.out, if_neg HMEM.out, List.append_nil]
          exact ⟨j + 1, A1, c1, m1, by go_num, rfl, by omega, by rw [e8]; exact HM1.out, by rw [e8]; exact HOW.out, hle, hmx, HUP.out⟩
        case measure => simp [intOf]; omega
    · obtain rfl : j = 7 := by omega
      have hall : codesL.take 7 = codesL := rfl
      have hoo := HOW.out
      have hmm := HM1.out
      rw [hall] at hoo hmm
      have hsl : Sl 0 wr A1 m1 c1 (codesL.filter (inL l)) := (Sl.of_own hoo hle hmx (by omega) (fun y hy => codes_bd y (List.mem_filter.1 hy).1)).low (Nat.zero_le _)
      have HSL := Lib.hid hsl
      have HU := Lib.hid (HU1.out.trans HUP.out)
      clear hoo hmm hall hsl
      go_wp2_with fail
      refine (some_is m rows cols k pv _ HSL.out (fun y hy => (List.mem_filter.1 hy).1) (by omega) HM.out (HP.out.up HU.out) HK.out).mono ?_
      rintro e w2 ⟨A2, c2, rfl, hs2, hu2⟩
      have HS2 := Lib.hid hs2
      have HU2 := Lib.hid hu2
      clear hs2 hu2
      go_wp2_with fail
      go_ret
      exact ⟨A2, c2, rfl, HS2.out.low HU.out.size, HU.out.trans HU2.out⟩
end Go.Proofs.Ytfknakcjhlonoaa
