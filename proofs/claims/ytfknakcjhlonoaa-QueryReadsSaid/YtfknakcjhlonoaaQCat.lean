/-
  slices.Grow of nil and slices.Concat, of bytes. Conditions: no more than 65536 bytes in all, and one at least.
-/
import Derived.Test.YtfknakcjhlonoaaQPl
import Derived.Test.YtfknakcjhlonoaaApp
import Derived.Lib.AppendZeros
namespace Go.Proofs.Ytfknakcjhlonoaa
open Go.RowKit
set_option linter.unusedVariables false
set_option linter.unusedSimpArgs false

theorem run_int_ : Try.prog.underlying 3 = some (.int .i64) := by kernel_rfl
set_option maxRecDepth 100000 in
set_option maxHeartbeats 1600000 in
theorem grow_nil (n : Nat) (h0 : 0 < n) (hn : n ≤ 65536) (w : World) :
    Calls Try.prog 47 #[.slice none 0 0, .int .i64 (n : Int)] w fun e w' => ∃ g c, e = .returned (.slice (some ⟨g, 0, none⟩) 0 c) ∧ w'.ownsRow w.heap.size 5 1 (.slice (some ⟨g, 0, none⟩) 0 c) 0 [] ∧ c ≤ maxLen ∧ Up w w' := by
  obtain ⟨i0, hi, hz0, hz1, hz2⟩ := info_parts info_u8
  have hr := Lib.run_append_nil_zeros (P := Try.prog) w 22 3 22 5 i0 _ .i64 .i64 Try.underlying22 run_int_ hi hz0 n h0 (by omega) (by omega) (by rw [hz2]; omega)
  have hcm := grownCap_le_maxLen w n 0 5 (by simp [maxLen]; omega)
  have hcg := grownCap_ge w n 0 5
  obtain ⟨C, hC⟩ : ∃ C, grownCap w n 0 5 = C := ⟨_, rfl⟩
  rw [hC] at hr hcm hcg
  have hown := World.ownsRow_made (base := w.heap.size) (size := 1) (e := 5) w.drew (Builtin.zeroCells (Value.int .u8 0).cells n ++ Builtin.zeroCells (Value.int .u8 0).cells (C - n)) C (Nat.le_refl _) hcm (by simp [Builtin.zeroCells, Value.cells]; omega)
  have hup : Up w (w.drew.alloc (.cells (Builtin.zeroCells (Value.int .u8 0).cells n ++ Builtin.zeroCells (Value.int .u8 0).cells (C - n)) 5)) := ((Up.refl w).drew).alloc _
  generalize (w.drew.alloc (.cells (Builtin.zeroCells (Value.int .u8 0).cells n ++ Builtin.zeroCells (Value.int .u8 0).cells (C - n)) 5)) = w1 at *
  have HR := Lib.hid hr
  have HO := Lib.hid hown
  have HU := Lib.hid hup
  have hC9 : (C : Int) ≤ 9223372036854775807 := by simp [maxLen] at hcm; omega
  have h0' : (0 : Int) < (n : Int) := by omega
  have hC0 : (0 : Int) ≤ (C : Int) := by omega
  clear hr hown hup hC
  go_enter Try.func47, Try.ntmps47
  go_wp2_with (at_builtin; refine Lib.wpList_append_run _ rfl (.tmp 20) (.tmp 21) 22 3 rfl _ _ rfl rfl _ _ HR.out ?_)
  go_ret
  exact ⟨w.heap.size, C, rfl, HO.out, hcm, HU.out⟩
def cat (xs : List Inn) : List Int := xs.flatMap (·.2.2)
theorem cat_snoc {xs : List Inn} {j : Nat} {x : Inn} (h : xs[j]? = some x) : cat (xs.take (j + 1)) = cat (xs.take j) ++ x.2.2 := by
  unfold cat
  rw [take_snoc h, List.flatMap_append]
  simp
theorem cat_take (xs : List Inn) (j : Nat) : (cat (xs.take j)).length ≤ (cat xs).length := by
  have : xs = xs.take j ++ xs.drop j := (List.take_append_drop j xs).symm
  have h : cat xs = cat (xs.take j) ++ cat (xs.drop j) := by
    unfold cat
    rw [← List.flatMap_append, List.take_append_drop]
  rw [h, List.length_append]
  omega
set_option maxRecDepth 100000 in
set_option maxHeartbeats 6400000 in
theorem concat_is {B N c : Nat} {A : Option Addr} {xs : List Inn} {w : World} (h : FL 22 1 BS.cells BS.inn B w A c xs) (hN : xs.length = N) (hs : (cat xs).length ≤ 65536) (h0 : 0 < (cat xs).length) :
    Calls Try.prog 43 #[.slice A N c] w fun e w' => ∃ A' c', e = .returned (.slice A' (cat xs).length c') ∧ Sl w.heap.size w' A' (cat xs).length c' (cat xs) ∧ w'.ownsRow w.heap.size 5 1 (.slice A' (cat xs).length c') (cat xs).length (bs (cat xs)) ∧ Up w w' := by
  obtain ⟨i0, hi, hz0, hz1, hz2⟩ := info_parts info_u8
  have HF := Lib.hid h
  have HN := Lib.hid hN
  have hzz1 := hz1
  have hN9 : (N : Int) ≤ 9223372036854775807 := by have := h.le; have := h.mx; simp [maxLen] at this; omega
  have hcat := Lib.hid (cat_take xs)
  obtain ⟨T, hT⟩ : ∃ T, (cat xs).length = T := ⟨_, rfl⟩
  rw [hT] at hs h0 hcat
  rw [hT]
  have HT := Lib.hid hT
  have hbl : BL (cat xs) := by
    intro y hy
    unfold cat at hy
    obtain ⟨x, hx, hyx⟩ := List.mem_flatMap.1 hy
    exact (h.good x hx x (by simp [BS.inn])).bytes y hyx
  have HBL := Lib.hid hbl
  clear h hN hT hbl
  go_enter Try.func43, Try.ntmps43
  go_wp2_with fail
  go_loop [3, 11] (fun v i => ∃ j : Nat, i = .int .i64 (j : Int) ∧ v = .int .i64 ((cat (xs.take j)).length : Int) ∧ j ≤ N) (fun _ i => N - (intOf i).toNat)
  case atStart => exact ⟨0, rfl, rfl, Nat.zero_le _⟩
  case round =>
    obtain ⟨j, rfl, rfl, hj⟩ := hrel
    have hb1 := hcat.out j
    by_cases hlt : j < N
    · obtain ⟨x, hx⟩ : ∃ x, xs[j]? = some x := ⟨_, List.getElem?_eq_getElem (by have := HN.out; omega)⟩
      obtain ⟨bf, rfl, hbf, x0, sx⟩ := bs_at HF.out hx
      have hb2 := hcat.out (j + 1)
      rw [cat_snoc hx, List.length_append] at hb2
      obtain ⟨Ax, cx, d⟩ := x
      simp only at x0 hb2
      have HX := Lib.hid (show (cat (xs.take (j + 1))).length = (cat (xs.take j)).length + d.length by rw [cat_snoc hx, List.length_append])
      obtain ⟨K, hK⟩ : ∃ K, (cat (xs.take j)).length = K := ⟨_, rfl⟩
      rw [hK] at hb1 hb2 HX
      rw [hK]
      have hlt' : (j : Int) < N := by omega
      have hkk : (K : Int) + (d.length : Int) ≤ 65536 := by omega
      have hk0 : (0 : Int) ≤ (K : Int) + (d.length : Int) := by omega
      clear hx sx hK
      go_wp2_with fail
      go_round
      case rel => exact ⟨j + 1, by go_num, by rw [HX.out]; push_cast; rfl, by omega⟩
      case measure => simp [intOf]; omega
    · obtain rfl : j = N := by omega
      have hall : xs.take j = xs := List.take_of_length_le (by rw [HN.out]; exact Nat.le_refl _)
      rw [hall, HT.out]
      clear hall
      go_wp2_with (go_at_call 47; refine (grow_nil T h0 hs _).mono ?_; rintro e w1 ⟨g, cg, rfl, hg1, hg2, hg3⟩; have HG1 := Lib.hid hg1; have HG3 := Lib.hid hg3; clear hg1 hg3)
      have hz1 := HG3.out.size
      go_loopw [6, 27] (fun v i wr => ∃ (k : Nat) (A1 : Option Addr) (c1 m1 : Nat), i = .int .i64 (k : Int) ∧ v = .slice A1 m1 c1 ∧ k ≤ j ∧ m1 = (cat (xs.take k)).length ∧ wr.ownsRow w.heap.size 5 1 (.slice A1 m1 c1) m1 (bs (cat (xs.take k))) ∧ m1 ≤ c1 ∧ c1 ≤ maxLen ∧ Up w wr) (fun _ i _ => j - (intOf i).toNat)
      case atStart => exact ⟨0, some ⟨g, 0, none⟩, cg, 0, rfl, rfl, Nat.zero_le _, rfl, HG1.out, Nat.zero_le _, hg2, HG3.out⟩
      case round =>
        obtain ⟨k, A1, c1, m1, rfl, rfl, hk, hm1, hown, hle, hmx, hup⟩ := hrel
        have hb1 := hcat.out k
        have HOW := Lib.hid hown
        have HUP := Lib.hid hup
        have HM1 := Lib.hid hm1
        have hwr : w.heap.size ≤ wr.heap.size := hup.size
        clear hown hup
        by_cases hlt : k < j
        · obtain ⟨x, hx⟩ : ∃ x, xs[k]? = some x := ⟨_, List.getElem?_eq_getElem (by have := HN.out; omega)⟩
          obtain ⟨bf, rfl, hbf, x0, sx⟩ := bs_at (HF.out.up HUP.out) hx
          have hb2 := hcat.out (k + 1)
          rw [cat_snoc hx, List.length_append] at hb2
          obtain ⟨Ax, cx, d⟩ := x
          simp only at x0 hb2 sx
          have HX := Lib.hid (show cat (xs.take (k + 1)) = cat (xs.take k) ++ d from cat_snoc hx)
          have SX := Lib.hid sx
          have hlt' : (k : Int) < (j : Int) := by omega
          have hq1 : m1 + d.length ≤ maxLen := by simp [maxLen]; omega
          have hq2 : (m1 + d.length) * 1 ≤ 140737488355328 := by omega
          clear hx sx hm1
          go_wp2_with (at_builtin; refine wpList_app _ rfl (.tmp 31) (.tmp 32) 22 rfl w.heap.size 5 i0 _ 1 1 Try.underlying22 hi hz0 hzz1 hz2 rfl (by decide) A1 m1 c1 (bs (cat (xs.take k))) rfl HOW.out wr.heap.size Ax d.length cx (bs d) rfl SX.out.rd (one_u8 d) hq1 hq2 hwr ?_; intro A3 c3 w5 hown5 hg5 hle5 hmx5 hbl5; have HO5 := Lib.hid hown5; have HB5 := Lib.hid hbl5; clear hown5 hg5 hbl5)
          go_roundw
          case rel =>
            refine ⟨k + 1, A3, c3, m1 + d.length, by go_num, rfl, by omega, by rw [HX.out, List.length_append, HM1.out], ?_, hle5, hmx5, HUP.out.past HB5.out⟩
            rw [HX.out]
            have e9 : bs (cat (xs.take k) ++ d) = bs (cat (xs.take k)) ++ bs d := by simp [bs]
            rw [e9]
            exact HO5.out
          case measure => simp [intOf]; omega
        · obtain rfl : k = j := by omega
          have hall : xs.take k = xs := List.take_of_length_le (by rw [HN.out]; exact Nat.le_refl _)
          have hm : m1 = T := by rw [HM1.out, hall, HT.out]
          subst hm
          have hoo := HOW.out
          rw [hall] at hoo
          have HO := Lib.hid hoo
          clear hoo hall hm1
          go_wp2_with fail
          go_ret
          exact ⟨A1, c1, rfl, Sl.of_own HO.out hle hmx hs HBL.out, HO.out, HUP.out⟩
end Go.Proofs.Ytfknakcjhlonoaa
