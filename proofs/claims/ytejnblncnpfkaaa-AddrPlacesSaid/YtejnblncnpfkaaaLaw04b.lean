/-
  The walks of law 04's AddrMoves and AddrPlaces. No condition.
-/
import Derived.Test.YtejnblncnpfkaaaLaw04a
namespace Go.Proofs.Ytejnblncnpfkaaa
open Go.RowKit
set_option linter.unusedVariables false
set_option linter.unusedSimpArgs false

theorem at_is {r c row col m : Int} (h : validB r c = true) (hm : atN r c row col = m) (w : World) :
    Calls Try.prog 31 #[.agg #[.int .i64 r, .int .i64 c], .int .i64 row, .int .i64 col] w fun e w' => e = .returned (.int .i64 m) ∧ Up w w' := by
  rw [← hm]; exact at_good r c row col w h
theorem wrap_is {r c n m : Int} (h : validB r c = true) (hm : n % (r * c) = m) (w : World) :
    Calls Try.prog 14 #[.agg #[.int .i64 r, .int .i64 c], .int .i64 n] w fun e w' => e = .returned (.int .i64 m) ∧ Up w w' := by
  rw [← hm]; exact wrap_good r c n w h
theorem row_is {r c n m : Int} (h : validB r c = true) (hm : n % (r * c) = m) (w : World) :
    Calls Try.prog 17 #[.agg #[.int .i64 r, .int .i64 c], .int .i64 n] w fun e w' => e = .returned (.int .i64 (m / c)) ∧ Up w w' := by
  rw [← hm]; exact row_good r c n w h
theorem col_is {r c n m : Int} (h : validB r c = true) (hm : n % (r * c) = m) (w : World) :
    Calls Try.prog 16 #[.agg #[.int .i64 r, .int .i64 c], .int .i64 n] w fun e w' => e = .returned (.int .i64 (m % c)) ∧ Up w w' := by
  rw [← hm]; exact col_good r c n w h
theorem split_at {r c x : Int} (h : validB r c = true) (h0 : 0 ≤ x) (h1 : x < r * c) : 0 ≤ x / c ∧ x / c < r ∧ 0 ≤ x % c ∧ x % c < c ∧ x / c * c + x % c = x := by
  obtain ⟨v0, v1, v2, v3, v4, v5⟩ := valid_facts h
  refine ⟨Int.ediv_nonneg h0 (by omega), Int.ediv_lt_of_lt_mul (by omega) h1, Int.emod_nonneg _ (by omega), Int.emod_lt_of_pos _ (by omega), ?_⟩
  exact Int.ediv_mul_add_emod x c
theorem join_at {c q p : Int} (hc : 1 ≤ c) (h0 : 0 ≤ p) (h1 : p < c) : (q * c + p) / c = q ∧ (q * c + p) % c = p := by
  constructor
  · rw [Int.add_comm, Int.add_mul_ediv_right _ _ (by omega), Int.ediv_eq_zero_of_lt h0 h1, Int.zero_add]
  · rw [Int.add_comm, Int.add_mul_emod_self_right, Int.emod_eq_of_lt h0 h1]
/-- a move is: so many places on, then so many rows down -/
theorem moveN_is {r c : Int} (h : validB r c = true) (n rows cols : Int) : moveN r c n rows cols = ((n + cols) % (r * c) / c + rows) % r * c + (n + cols) % (r * c) % c := by
  obtain ⟨v0, v1, v2, v3, v4, v5⟩ := valid_facts h
  have e : moveM r c n cols = (n + cols) % (r * c) := by unfold moveM; rw [← Int.add_emod]
  unfold moveN atN
  rw [e, Int.add_emod_emod, Int.emod_emod]
theorem move_bd {r c : Int} (h : validB r c = true) (n rows cols : Int) : 0 ≤ moveN r c n rows cols ∧ moveN r c n rows cols < r * c := atN_bd h _ _
theorem move_zero {r c : Int} (h : validB r c = true) (n cols : Int) : moveN r c n 0 cols = (n + cols) % (r * c) := by
  obtain ⟨v0, v1, v2, v3, v4, v5⟩ := valid_facts h
  have hm := mod_facts (n + cols) (r * c) v4
  obtain ⟨s0, s1, s2, s3, s4⟩ := split_at h hm.1 hm.2
  rw [moveN_is h, Int.add_zero, Int.emod_eq_of_lt s0 s1, s4]
theorem move_back_rows {r c : Int} (h : validB r c = true) (n rows : Int) : moveN r c (moveN r c n rows 0) (-rows) 0 = n % (r * c) := by
  obtain ⟨v0, v1, v2, v3, v4, v5⟩ := valid_facts h
  have hm := mod_facts n (r * c) v4
  obtain ⟨s0, s1, s2, s3, s4⟩ := split_at h hm.1 hm.2
  have hb := move_bd h n rows 0
  have hq := mod_facts (n % (r * c) / c + rows) r v0
  rw [moveN_is h, Int.add_zero, Int.emod_eq_of_lt hb.1 hb.2, moveN_is h n, Int.add_zero]
  obtain ⟨j1, j2⟩ := join_at (q := (n % (r * c) / c + rows) % r) v2 s2 s3
  rw [j1, j2, Int.emod_add_emod, Int.add_assoc, Int.add_right_neg, Int.add_zero, Int.emod_eq_of_lt s0 s1, s4]
theorem move_back_cols {r c : Int} (h : validB r c = true) (n cols : Int) : moveN r c (moveN r c n 0 cols) 0 (-cols) = n % (r * c) := by
  rw [move_zero h, move_zero h, Int.emod_add_emod, Int.add_assoc, Int.add_right_neg, Int.add_zero]
theorem move_rows {r c : Int} (h : validB r c = true) (n : Int) : moveN r c n r 0 = n % (r * c) := by
  obtain ⟨v0, v1, v2, v3, v4, v5⟩ := valid_facts h
  have hm := mod_facts n (r * c) v4
  obtain ⟨s0, s1, s2, s3, s4⟩ := split_at h hm.1 hm.2
  rw [moveN_is h, Int.add_zero, Int.add_emod_right, Int.emod_eq_of_lt s0 s1, s4]
theorem move_cells {r c : Int} (h : validB r c = true) (n : Int) : moveN r c n 0 (r * c) = n % (r * c) := by
  rw [move_zero h, Int.add_emod_right]
theorem move_down {r c : Int} (h : validB r c = true) (n : Int) : moveN r c n 1 0 % (r * c) % c = n % (r * c) % c ∧ ((n % (r * c) / c = r - 1 ∧ moveN r c n 1 0 % (r * c) / c = 0) ∨ (n % (r * c) / c ≠ r - 1 ∧ moveN r c n 1 0 = n % (r * c) + c)) := by
  obtain ⟨v0, v1, v2, v3, v4, v5⟩ := valid_facts h
  have hm := mod_facts n (r * c) v4
  obtain ⟨s0, s1, s2, s3, s4⟩ := split_at h hm.1 hm.2
  have hb := move_bd h n 1 0
  rw [Int.emod_eq_of_lt hb.1 hb.2, moveN_is h n, Int.add_zero]
  obtain ⟨j1, j2⟩ := join_at (q := (n % (r * c) / c + 1) % r) v2 s2 s3
  refine ⟨j2, ?_⟩
  rw [j1]
  by_cases hl : n % (r * c) / c = r - 1
  · refine .inl ⟨hl, ?_⟩
    rw [hl, show r - 1 + 1 = r by omega, Int.emod_self]
  · refine .inr ⟨hl, ?_⟩
    rw [Int.emod_eq_of_lt (show 0 ≤ n % (r * c) / c + 1 by omega) (by omega), Int.add_mul, Int.one_mul]
    omega
theorem tmod_10000 (a : Int) : -10000 < a.tmod 10000 ∧ a.tmod 10000 < 10000 := by
  have := tmod_bd a 10000 (by omega)
  omega

seal moveN atN
set_option maxRecDepth 100000 in
set_option maxHeartbeats 1600000 in
theorem law_moves (r c n rows cols : Int) (w : World) (_ : -9223372036854775808 ≤ r) (_ : r ≤ 9223372036854775807) (_ : -9223372036854775808 ≤ c) (_ : c ≤ 9223372036854775807) (n0 : -9223372036854775808 ≤ n) (n1 : n ≤ 9223372036854775807) (_ : -9223372036854775808 ≤ rows) (_ : rows ≤ 9223372036854775807) (_ : -9223372036854775808 ≤ cols) (_ : cols ≤ 9223372036854775807) :
    Calls Try.prog 4 #[.agg #[.int .i64 r, .int .i64 c], .int .i64 n, .int .i64 rows, .int .i64 cols] w fun e w' => e = .returned (.bool true) ∧ Up w w' := by
  obtain ⟨ra0, ra1⟩ := tmod_10000 rows
  obtain ⟨ca0, ca1⟩ := tmod_10000 cols
  cases h : validB r c
  · go_enter Try.func4, Try.ntmps4
    go_wp2_with fail
    refine (awake04 _).mono ?_
    rintro e w1 ⟨rfl, hb_w1⟩
    have hu_w1 : Up w w1 := by (repeat (first | with_reducible exact Up.refl _ | with_reducible refine Up.alloc ?_ _ | with_reducible refine Up.drew ?_ | with_reducible refine Up.drewN ?_ _ | with_reducible refine Up.setCell ?_ (by (try simp) <;> omega) _ | with_reducible assumption | with_reducible refine Up.trans ?_ (by assumption)))
    have hz_w1 := Up.size hb_w1
    try simp at hz_w1
    obtain ⟨bd_w1_0, be_w1_0⟩ := hb_w1.at_ (w.heap.size) (by (try simp) <;> omega)
    have zb_w1_0 : w.heap.size < w1.heap.size := by omega
    go_wp2_with fail
    refine (valid_is h _).mono ?_
    rintro e w2 ⟨rfl, hb_w2⟩
    have hu_w2 : Up w1 w2 := by (repeat (first | with_reducible exact Up.refl _ | with_reducible refine Up.alloc ?_ _ | with_reducible refine Up.drew ?_ | with_reducible refine Up.drewN ?_ _ | with_reducible refine Up.setCell ?_ (by (try simp) <;> omega) _ | with_reducible assumption | with_reducible refine Up.trans ?_ (by assumption)))
    have hz_w2 := Up.size hb_w2
    try simp at hz_w2
    obtain ⟨bc_w2_0, bf_w2_0⟩ := hu_w2.at_ (w.heap.size) (by omega)
    obtain ⟨bd_w2_0, be_w2_0⟩ := hb_w2.at_ (w1.heap.size) (by (try simp) <;> omega)
    have zb_w2_0 : w.heap.size < w2.heap.size := by omega
    have zb_w2_1 : w1.heap.size < w2.heap.size := by omega
    go_wp2_with fail
    refine (move_bad _ _ _ _ _ _ h).mono ?_
    rintro e w3 ⟨rfl, hb_w3⟩
    have hu_w3 : Up w2 w3 := by (repeat (first | with_reducible exact Up.refl _ | with_reducible refine Up.alloc ?_ _ | with_reducible refine Up.drew ?_ | with_reducible refine Up.drewN ?_ _ | with_reducible refine Up.setCell ?_ (by (try simp) <;> omega) _ | with_reducible assumption | with_reducible refine Up.trans ?_ (by assumption)))
    have hz_w3 := Up.size hb_w3
    try simp at hz_w3
    obtain ⟨bc_w3_0, bf_w3_0⟩ := hu_w3.at_ (w.heap.size) (by omega)
    obtain ⟨bc_w3_1, bf_w3_1⟩ := hu_w3.at_ (w1.heap.size) (by omega)
    have zb_w3_0 : w.heap.size < w3.heap.size := by omega
    have zb_w3_1 : w1.heap.size < w3.heap.size := by omega
    go_wp2_with fail
    go_ret
    exact ⟨rfl, by (repeat (first | with_reducible exact Up.refl _ | with_reducible refine Up.alloc ?_ _ | with_reducible refine Up.drew ?_ | with_reducible refine Up.drewN ?_ _ | with_reducible refine Up.setCell ?_ (by (try simp) <;> omega) _ | with_reducible assumption | with_reducible refine Up.trans ?_ (by assumption)))⟩
  · obtain ⟨v0, v1, v2, v3, v4, v5⟩ := valid_facts h
    have e1 := move_back_rows h n (rows.tmod 10000)
    have e2 := move_back_cols h n (cols.tmod 10000)
    have e3 := move_rows h n
    have e4 := move_cells h n
    obtain ⟨d1, d2⟩ := move_down h n
    have hbn := mod_facts n (r * c) v4
    generalize hM : n % (r * c) = m at *
    obtain ⟨dn, hdn⟩ : ∃ dn, moveN r c n 1 0 = dn := ⟨_, rfl⟩
    rw [hdn] at d1 d2
    have d2' : ((m / c == r - 1) = true ∧ (dn % (r * c) / c == 0) = true) ∨ ((m / c == r - 1) = false ∧ (dn == m + c) = true) := d2.imp (fun x => ⟨by simpa using x.1, by simpa using x.2⟩) fun x => ⟨by simpa using x.1, by simpa using x.2⟩
    clear d2
    rcases d2' with ⟨d2, d3⟩ | ⟨d2, d3⟩
    all_goals
      go_enter Try.func4, Try.ntmps4
      go_wp2_with fail
      refine (awake04 _).mono ?_
      rintro e w1 ⟨rfl, hb_w1⟩
      have hu_w1 : Up w w1 := by (repeat (first | with_reducible exact Up.refl _ | with_reducible refine Up.alloc ?_ _ | with_reducible refine Up.drew ?_ | with_reducible refine Up.drewN ?_ _ | with_reducible refine Up.setCell ?_ (by (try simp) <;> omega) _ | with_reducible assumption | with_reducible refine Up.trans ?_ (by assumption)))
      have hz_w1 := Up.size hb_w1
      try simp at hz_w1
      obtain ⟨bd_w1_0, be_w1_0⟩ := hb_w1.at_ (w.heap.size) (by (try simp) <;> omega)
      have zb_w1_0 : w.heap.size < w1.heap.size := by omega
      go_wp2_with fail
      refine (valid_is h _).mono ?_
      rintro e w2 ⟨rfl, hb_w2⟩
      have hu_w2 : Up w1 w2 := by (repeat (first | with_reducible exact Up.refl _ | with_reducible refine Up.alloc ?_ _ | with_reducible refine Up.drew ?_ | with_reducible refine Up.drewN ?_ _ | with_reducible refine Up.setCell ?_ (by (try simp) <;> omega) _ | with_reducible assumption | with_reducible refine Up.trans ?_ (by assumption)))
      have hz_w2 := Up.size hb_w2
      try simp at hz_w2
      obtain ⟨bc_w2_0, bf_w2_0⟩ := hu_w2.at_ (w.heap.size) (by omega)
      obtain ⟨bd_w2_0, be_w2_0⟩ := hb_w2.at_ (w1.heap.size) (by (try simp) <;> omega)
      have zb_w2_0 : w.heap.size < w2.heap.size := by omega
      have zb_w2_1 : w1.heap.size < w2.heap.size := by omega
      go_wp2_with fail
      refine (wrap_is h hM _).mono ?_
      rintro e w3 ⟨rfl, hb_w3⟩
      have hu_w3 : Up w2 w3 := by (repeat (first | with_reducible exact Up.refl _ | with_reducible refine Up.alloc ?_ _ | with_reducible refine Up.drew ?_ | with_reducible refine Up.drewN ?_ _ | with_reducible refine Up.setCell ?_ (by (try simp) <;> omega) _ | with_reducible assumption | with_reducible refine Up.trans ?_ (by assumption)))
      have hz_w3 := Up.size hb_w3
      try simp at hz_w3
      obtain ⟨bc_w3_0, bf_w3_0⟩ := hu_w3.at_ (w.heap.size) (by omega)
      obtain ⟨bc_w3_1, bf_w3_1⟩ := hu_w3.at_ (w1.heap.size) (by omega)
      have zb_w3_0 : w.heap.size < w3.heap.size := by omega
      have zb_w3_1 : w1.heap.size < w3.heap.size := by omega
      go_wp2_with fail
      generalize rows.tmod 10000 = ra at *
      generalize cols.tmod 10000 = ca at *
      refine wp_region_up_lit (by kernel_rfl) (by kernel_rfl) ?_
      repeat (go_big_quiet_step (first | (go_at_call 15; exact up_call (cells_good _ _ _ h)) | (go_at_call 13; first | with_reducible exact up_call (move_is h e1 _) | with_reducible exact up_call (move_is h e2 _) | with_reducible exact up_call (move_is h e3 _) | with_reducible exact up_call (move_is h e4 _) | exact up_call (move_good _ _ _ _ _ _ h))))
      refine wpQuiet_nil ?_
      rintro w4 ⟨W_w4, hw_w4⟩
      have hb_w4 : Up _ w4 := hw_w4 ▸ up_upOf _ _
      clear hw_w4 W_w4
      have hu_w4 : Up w3 w4 := by (repeat (first | with_reducible exact Up.refl _ | with_reducible refine Up.alloc ?_ _ | with_reducible refine Up.drew ?_ | with_reducible refine Up.drewN ?_ _ | with_reducible refine Up.setCell ?_ (by (try simp) <;> omega) _ | with_reducible assumption | with_reducible refine Up.trans ?_ (by assumption)))
      have hz_w4 := Up.size hb_w4
      try simp at hz_w4
      obtain ⟨bc_w4_0, bf_w4_0⟩ := hu_w4.at_ (w.heap.size) (by omega)
      obtain ⟨bc_w4_1, bf_w4_1⟩ := hu_w4.at_ (w1.heap.size) (by omega)
      have zb_w4_0 : w.heap.size < w4.heap.size := by omega
      have zb_w4_1 : w1.heap.size < w4.heap.size := by omega
      go_wp2_with fail
      refine (move_is h hdn _).mono ?_
      rintro e w5 ⟨rfl, hb_w5⟩
      have hu_w5 : Up w4 w5 := by (repeat (first | with_reducible exact Up.refl _ | with_reducible refine Up.alloc ?_ _ | with_reducible refine Up.drew ?_ | with_reducible refine Up.drewN ?_ _ | with_reducible refine Up.setCell ?_ (by (try simp) <;> omega) _ | with_reducible assumption | with_reducible refine Up.trans ?_ (by assumption)))
      have hz_w5 := Up.size hb_w5
      try simp at hz_w5
      obtain ⟨bc_w5_0, bf_w5_0⟩ := hu_w5.at_ (w.heap.size) (by omega)
      obtain ⟨bc_w5_1, bf_w5_1⟩ := hu_w5.at_ (w1.heap.size) (by omega)
      have zb_w5_0 : w.heap.size < w5.heap.size := by omega
      have zb_w5_1 : w1.heap.size < w5.heap.size := by omega
      go_wp2_with fail
      refine wp_region_up_lit (by kernel_rfl) (by kernel_rfl) ?_
      repeat (go_big_quiet_step (first | (go_at_call 16; first | with_reducible exact up_call (col_is h hM _) | exact up_call (col_good _ _ _ _ h)) | (go_at_call 17; first | with_reducible exact up_call (row_is h hM _) | exact up_call (row_good _ _ _ _ h))))
      refine wpQuiet_nil ?_
      rintro w6 ⟨W_w6, hw_w6⟩
      have hb_w6 : Up _ w6 := hw_w6 ▸ up_upOf _ _
      clear hw_w6 W_w6
      have hu_w6 : Up w5 w6 := by (repeat (first | with_reducible exact Up.refl _ | with_reducible refine Up.alloc ?_ _ | with_reducible refine Up.drew ?_ | with_reducible refine Up.drewN ?_ _ | with_reducible refine Up.setCell ?_ (by (try simp) <;> omega) _ | with_reducible assumption | with_reducible refine Up.trans ?_ (by assumption)))
      have hz_w6 := Up.size hb_w6
      try simp at hz_w6
      obtain ⟨bc_w6_0, bf_w6_0⟩ := hu_w6.at_ (w.heap.size) (by omega)
      obtain ⟨bc_w6_1, bf_w6_1⟩ := hu_w6.at_ (w1.heap.size) (by omega)
      have zb_w6_0 : w.heap.size < w6.heap.size := by omega
      have zb_w6_1 : w1.heap.size < w6.heap.size := by omega
      go_wp2_with fail
      go_ret
      exact ⟨rfl, by (repeat (first | with_reducible exact Up.refl _ | with_reducible refine Up.alloc ?_ _ | with_reducible refine Up.drew ?_ | with_reducible refine Up.drewN ?_ _ | with_reducible refine Up.setCell ?_ (by (try simp) <;> omega) _ | with_reducible assumption | with_reducible refine Up.trans ?_ (by assumption)))⟩
end Go.Proofs.Ytejnblncnpfkaaa
