/-
  What a nil page answers; the walk of PageNumbers: whatever the number and the stop, it returns true. No condition.
-/
import Derived.Test.YthdoighlfoinaaaNumIt
namespace Go.Proofs.Ythdoighlfoinaaa
open Go.RowKit Go.Maps
set_option linter.unusedVariables false
set_option linter.unusedSimpArgs false
attribute [local go_sem] Oper.semAt_some

theorem nil_code (s : Int) (w : World) : Calls Try.prog 15 #[.pointer none, .int .i32 s] w fun e w' => e = .returned (.tuple #[.int .u8 0, .bool false]) ∧ w = w' := by
  go_enter Try.func15, Try.ntmps15
  go_wp2
  go_ret2
  exact ⟨rfl, rfl⟩
theorem nil_sign (c : Int) (w : World) : Calls Try.prog 17 #[.pointer none, .int .u8 c] w fun e w' => e = .returned (.int .i32 0) ∧ w = w' := by
  go_enter Try.func17, Try.ntmps17
  go_wp2
  go_ret
  exact ⟨rfl, rfl⟩
theorem nil_number (w : World) : Calls Try.prog 19 #[.pointer none] w fun e w' => e = .returned (.int .i64 0) ∧ w = w' := by
  go_enter Try.func19, Try.ntmps19
  go_wp2
  go_ret
  exact ⟨rfl, rfl⟩
theorem nil_text (v : Value) (w : World) : Calls Try.prog 40 #[.pointer none, v] w fun e w' => e = .returned (.string { data := #[] }) ∧ w = w' := by
  go_enter Try.func40, Try.ntmps40
  go_wp2
  go_ret
  exact ⟨rfl, rfl⟩
theorem nil_codes (v : Value) (w : World) : Calls Try.prog 41 #[.pointer none, v] w fun e w' => e = .returned (.tuple #[.slice none 0 0, .int .i64 0, .int .i64 5]) ∧ w = w' := by
  go_enter Try.func41, Try.ntmps41
  go_wp2
  go_ret3
  exact ⟨rfl, rfl⟩
theorem nil_upper (c : Int) (w : World) : Calls Try.prog 20 #[.pointer none, .int .u8 c] w fun e w' => e = .returned (.int .u8 c) ∧ w = w' := by
  go_enter Try.func20, Try.ntmps20
  go_wp2_with (go_at_call 17; with_reducible refine (nil_sign c _).mono ?_; rintro e w1 ⟨rfl, rfl⟩)
  go_ret
  exact ⟨rfl, rfl⟩
theorem is_is (k : Int) (w : World) : Calls Try.prog 45 #[.int .i64 k] w fun e w' => e = .returned (.bool (isPage k)) ∧ w = w' := by
  cases h : isPage k
  · go_enter Try.func45, Try.ntmps45
    go_wp2_with (go_at_call 49; with_reducible refine (ref_others_not k h _).mono ?_; rintro e w1 ⟨rfl, rfl⟩)
    go_ret
    exact ⟨rfl, rfl⟩
  · go_enter Try.func45, Try.ntmps45
    go_wp2_with (go_at_call 49; with_reducible refine (ref_others_is k h _).mono ?_; rintro e w1 ⟨rfl, rfl⟩)
    go_ret
    exact ⟨rfl, rfl⟩
/-- the literal of all numbers, cut -/
def RN (k : Nat) (v : Value) (W : World) : Prop := ∃ g o, v = .slice (some ⟨g, o, none⟩) k 6 ∧ g < W.heap.size ∧ Reads W W.heap.size 1 (some ⟨g, o, none⟩) k (ns (six.take k))
theorem rn_up (k : Nat) (v : Value) (W W' : World) (h : RN k v W) (hu : Up W W') : RN k v W' := by
  obtain ⟨g, o, rfl, h1, h2⟩ := h
  exact ⟨g, o, rfl, by have := hu.size; omega, h2.up hu⟩
theorem numbers_lit (w : World) : Calls Try.prog 47 #[] w fun e w' => ∃ g, e = .returned (.slice (some ⟨g, 0, none⟩) 6 6) ∧ RN 6 (.slice (some ⟨g, 0, none⟩) 6 6) w' ∧ Up w w' := by
  go_enter Try.func47, Try.ntmps47
  go_wp2
  go_ret
  refine ⟨_, rfl, ⟨_, _, rfl, by simp, ?_⟩, by (repeat (first | with_reducible exact Up.refl _ | with_reducible refine Up.alloc ?_ _ | with_reducible refine Up.drew ?_ | with_reducible refine Up.drewN ?_ _ | with_reducible refine Up.setCell ?_ (by (try simp) <;> omega) _ | with_reducible assumption | with_reducible refine Up.trans ?_ (by assumption)))⟩
  refine ⟨rfl, fun _ => ⟨_, _, rfl, by simp, fun j v hj => ?_⟩⟩
  rw [World.cell?_alloc_new, Nat.zero_add]
  exact (List.getElem?_toArray ..).trans hj
theorem rn_take {k g o : Nat} {W : World} (h1 : g < W.heap.size) (h2 : Reads W W.heap.size 1 (some ⟨g, o, none⟩) 6 (ns (six.take 6))) (hk : k ≤ 6) : RN k (.slice (some ⟨g, o, none⟩) k 6) W := by
  refine ⟨g, o, rfl, h1, ?_⟩
  have := h2.take (k := k) hk
  rw [Nat.mul_one, ns, ← List.map_take, List.take_take, Nat.min_eq_left hk] at this
  exact this
theorem eq_rn {A : Option Addr} {n c g o k : Nat} {w : World} (hr : Reads w w.heap.size 1 A n (ns (six.take k))) (hr' : Reads w w.heap.size 1 (some ⟨g, o, none⟩) k (ns (six.take k))) :
    Calls Try.prog 46 #[.slice A n c, .slice (some ⟨g, o, none⟩) k 6] w fun e w' => e = .returned (.bool true) ∧ Up w w' := eq_ms hr hr' (by
      have : six.length = 6 := rfl
      rw [List.length_take]; omega)
theorem numbers_val (w : World) : Calls Try.prog 44 #[] w fun e w' => e = .returned (.func (.func 60) #[] #[]) ∧ w = w' := by
  go_enter Try.func44, Try.ntmps44
  go_wp2
  go_ret
  exact ⟨rfl, rfl⟩
/-- what page.New hands over -/
def NewR (r : Bool) (pv : Option Addr) (ev : Int) : Prop := (r = true ∧ (∃ b, pv = some ⟨b, 0, none⟩) ∧ ev = 0) ∨ (r = false ∧ pv = none ∧ ev = 5)
theorem new_any (k : Int) (w : World) : Calls Try.prog 43 #[.int .i64 k] w fun e w' => ∃ pv ev, e = .returned (.tuple #[.pointer pv, .int .i64 ev]) ∧ NewR (isPage k) pv ev ∧ Up w w' := by
  cases h : isPage k
  · refine (new_not k h w).mono ?_
    rintro e w' ⟨rfl, rfl⟩
    exact ⟨none, 5, rfl, .inr ⟨rfl, rfl, rfl⟩, Up.refl _⟩
  · refine (new_is k h w).mono ?_
    rintro e w' ⟨b, rfl, _, _, hu⟩
    exact ⟨_, 0, rfl, .inl ⟨rfl, ⟨b, rfl⟩, rfl⟩, hu⟩
theorem pre_take1 {L : List Int} {a : List Int} (h : a <+: L) : L.take a.length = a := (List.prefix_iff_eq_take.1 h).symm
set_option maxRecDepth 100000 in
set_option maxHeartbeats 6400000 in
theorem law_numbers (x st : Int) (w : World) (x0 : -9223372036854775808 ≤ x) (x1 : x ≤ 9223372036854775807) (s0 : 0 ≤ st) (s1 : st ≤ 255) :
    Calls Try.prog 12 #[.int .i64 x, .int .u8 st] w fun e w' => e = .returned (.bool true) ∧ Up w w' := by
  obtain ⟨i0, hi, hz0, hz1, hz2⟩ := info_parts info_i64
  obtain ⟨m, rfl⟩ : ∃ m : Nat, st = (m : Int) := ⟨st.toNat, by omega⟩
  obtain ⟨k, hk⟩ : ∃ k, m % 6 = k := ⟨_, rfl⟩
  have hk6 : k < 6 := by omega
  have e6 : (m : Int) % 6 = (k : Int) := by omega
  have e7 : (m : Int).tmod 6 = (k : Int) := by rw [Int.tmod_eq_emod_of_nonneg (by omega)]; exact e6
  clear hk
  refine (callsIn_wide (n := 9)).1 ?_
  refine callsIn_of_wp_marks Try.func12 rfl trivial ?_ rfl
  simp only [Try.ntmps12, List.size_toArray, List.length_cons, List.length_nil, Nat.reduceAdd, Nat.reduceSub, Array.replicate_succ, Array.replicate_zero, List.push_toArray, List.append_toArray, List.nil_append, List.cons_append]
  refine wpIn_wide.2 ?_
  go_wp2_with (first
      | (go_at_call 13; refine (awake01 _).mono ?_; rintro e w1 ⟨rfl, hu1⟩)
      | (go_at_call 43; with_reducible refine (new_any x _).mono ?_; rintro e w2 ⟨pv, ev, rfl, hnw, hu2⟩; have HNW := Lib.hid hnw; clear hnw)
      | (go_at_call 44; with_reducible refine (numbers_val _).mono ?_; rintro e w3 ⟨rfl, rfl⟩))
  obtain ⟨w3, hw3⟩ : ∃ w3, ((w2.alloc (.cells #[.int .i64 (1 + (k : Int))] 3)).alloc (.cells #[.slice none 0 0] 58)) = w3 := ⟨_, rfl⟩
  have c1 : w3.cell? ⟨w2.heap.size, 0, none⟩ = some (.int .i64 (1 + (k : Int))) := by subst hw3; simp [go_sem]
  have c2 : w3.cell? ⟨w2.heap.size + 1, 0, none⟩ = some (.slice none 0 0) := by subst hw3; simp [go_sem]
  have g2 : w3.frozen? ⟨w2.heap.size + 1, 0, none⟩ = false := by subst hw3; simp [go_sem]
  have hz3 : w3.heap.size = w2.heap.size + 2 := by subst hw3; simp
  have HU := Lib.hid (show Up w w3 by subst hw3; exact ((hu1.trans hu2).alloc _).alloc _)
  rw [hw3]
  obtain ⟨B0, hB0⟩ : ∃ B0, w2.heap.size + 2 = B0 := ⟨_, rfl⟩
  have HB0 := Lib.hid hB0
  have hzw : w.heap.size ≤ w2.heap.size := by have := hu1.size; have := hu2.size; omega
  have HC1 := Lib.hid c1
  clear hw3 hu1 hu2 c1 hB0
  refine wpIn_wide.1 (range_n (n := 9) (gf := 60) (lb := #[]) rfl enters_numbers numbers_it (fun _ => rfl)
    (fun _ => False) (fun k hk => hk.elim) (fun k hk => hk.elim) (fun _ _ => trivial)
    (fun N pre W => OutB (fun k => k = w2.heap.size + 1) w3 B0 (w2.heap.size + 1) N pre W ∧ pre.length < k + 1)
    (fun c N xs W => match c with
      | .exit id => id = 0 ∧ OutB (fun k => k = w2.heap.size + 1) w3 B0 (w2.heap.size + 1) N xs W ∧ xs <+: six ∧ xs.length = k + 1
      | _ => False)
    (fun N N' s A A' h hk hn => ⟨OutB.own N N' _ A A' h.1 hk hn, h.2⟩) ?ownx (fun _ _ _ _ => trivial) ?start
    (fun pre y a' N W' => pre ++ [y] <+: six ∧ a' = { tmps := #[Value.int .i64 x, .int .u8 (m : Int), undef, undef, .bool false, .pointer pv, .int .i64 ev, .pointer (some ⟨w2.heap.size, 0, none⟩), .pointer (some ⟨w2.heap.size + 1, 0, none⟩), .int .i64 y, undef, undef, undef, undef, undef, undef, undef, .bool true, .bool false, .tuple #[.pointer pv, .int .i64 ev], .int .i64 x, .tuple #[.pointer pv, .int .i64 ev], .pointer pv, .int .i64 ev, .int .u8 (m : Int), .int .u8 (k : Int), .int .i64 (k : Int), .int .i64 (1 + (k : Int)), .func (.func 60) #[] #[], .int .i64 y, undef, undef, undef, undef, undef, undef, undef, undef, undef, undef, undef, undef, undef, undef, undef, undef, undef, undef, undef, undef, undef, undef, undef, undef, undef, undef, undef, undef, undef, undef, undef, undef, undef, undef, undef, undef, undef, undef, undef, undef, undef, undef, undef, undef, undef, undef, undef, undef, undef, undef, undef, undef, undef, undef, undef, undef, undef, undef, undef, undef, undef, undef, undef, undef, undef, undef, undef, undef, undef, undef, undef, undef, undef, undef, undef, undef, undef, undef], defers := [] })
    (fun _ _ _ _ _ _ _ _ h _ _ => h) ?assign ?body ?done ?stop)
  case ownx =>
    intro c N N' xs A A' h hk hn
    cases c
    case exit id => exact ⟨h.1, OutB.own N N' _ A A' h.2.1 hk hn, h.2.2⟩
    all_goals exact h.elim
  case start => exact ⟨⟨Keep.refl _ _, ⟨none, 0, 0, c2, g2, OwnI.nil _ _, fun p hp => by cases hp⟩, fun h => h, fun k h => h.elim, by have := HB0.out; omega⟩, by simp⟩
  case assign =>
    rintro l N pre y W K hz hI hG hK
    have HI := Lib.hid hI
    have HG := Lib.hid hG
    clear hI hG
    gi_wp2
    exact hK _ _ (Held.refl _ _) HI.out ⟨HG.out, rfl⟩
  case body =>
    rintro l N pre y a' W hl hr hz ⟨hI, hT2⟩ ⟨hT1, rfl⟩
    have HI := Lib.hid hI
    obtain ⟨A, n, c0, q1, q2, q3, q5⟩ := hI.ex
    have hlen := hT2
    have hn := q3.len
    subst hn
    have zo := cell_lt q1
    have hbw := hI.bw
    have hu := hI.up
    have m1 : W.cell? ⟨w2.heap.size, 0, none⟩ = some (.int .i64 (1 + (k : Int))) := ((hu.at_ w2.heap.size (by omega) (by omega)).1 0).trans HC1.out
    have zm := cell_lt m1
    have H3 := Lib.hid q3
    have HZ := Lib.hid hz
    have H5 := Lib.hid q5
    have HTK := Lib.hid hT1
    have HNE := Lib.hid (show ∀ k, k < B0 → (Value.slice A pre.length c0).ownBlock ≠ some k from fun k hk e => by have := own_bd q3.own _ e; omega)
    have hb0 := HB0.out
    clear q3 hz q5 hI hu hT1 hr hl
    have hn5 : pre.length ≤ 65535 := by omega
    have zo2 : w2.heap.size + 1 < W.heap.size := zo
    have zm2 : w2.heap.size < W.heap.size := zm
    have HAL := Lib.hid (show ∀ o v, o < W.heap.size → (W.alloc v).cell? ⟨o, 0, none⟩ = W.cell? ⟨o, 0, none⟩ from fun o v ho => World.cell?_alloc_lt W v ⟨o, 0, none⟩ ho)
    have HAF := Lib.hid (show ∀ o v, o < W.heap.size → (W.alloc v).frozen? ⟨o, 0, none⟩ = W.frozen? ⟨o, 0, none⟩ from fun o v ho => (((Up.refl W).alloc v).at_ o ho).2 0)
    rcases Nat.lt_or_ge pre.length k with hlast | hlast
    · have e1 : (((pre.length : Nat) : Int) + 1 == 1 + (k : Int)) = false := by simp; omega
      gi_wp2_with (gi_at_builtin; refine wpListIn_push i0 hi hz0 hz1 hz2 Try.underlying58 rfl (.tmp 30) (.tmp 32) rfl W y rfl W.heap.size rfl B0 A pre.length c0 pre rfl rfl H3.out hn5 hbw ?_; intro A1 c1 w1' hown1 hg1 hbl1 hp1; obtain ⟨gc, gz⟩ := grown_at hg1 (w2.heap.size + 1) (by simp; omega) (HNE.out _ (by omega)); obtain ⟨gm, gmf⟩ := grown_at hg1 w2.heap.size (by simp; omega) (HNE.out _ (by omega)); have gc1 := (gc 0).trans ((HAL.out _ _ zo2).trans q1); have gz1 := (gz 0).trans ((HAF.out _ _ zo2).trans q2); have gm1 := (gm 0).trans ((HAL.out _ _ zm2).trans m1); have HO2 := Lib.hid hown1; have HG1 := Lib.hid hg1; have HB1 := Lib.hid hbl1; have HP1 := Lib.hid hp1; have hzw1 := hbl1.size; clear hown1 hg1 hbl1 hp1 gc gz gm gmf)
      have hf := OutB.push (T := fun k => k = w2.heap.size + 1) (r := (Value.slice A pre.length c0).ownBlock) HI.out HZ.out H5.out HO2.out HG1.out (fun k hk => by
          cases A with
          | none => simp [Value.ownBlock] at hk
          | some p => simp [Value.ownBlock] at hk; exact ⟨p, rfl, hk⟩) HB1.out (by omega) (by omega) HP1.out gc1 gz1 (.inl rfl)
      exact ⟨hf.1, hf.2, by simp; omega⟩
    · have e1 : (((pre.length : Nat) : Int) + 1 == 1 + (k : Int)) = true := by simp; omega
      gi_wp2_with (gi_at_builtin; refine wpListIn_push i0 hi hz0 hz1 hz2 Try.underlying58 rfl (.tmp 30) (.tmp 32) rfl W y rfl W.heap.size rfl B0 A pre.length c0 pre rfl rfl H3.out hn5 hbw ?_; intro A1 c1 w1' hown1 hg1 hbl1 hp1; obtain ⟨gc, gz⟩ := grown_at hg1 (w2.heap.size + 1) (by simp; omega) (HNE.out _ (by omega)); obtain ⟨gm, gmf⟩ := grown_at hg1 w2.heap.size (by simp; omega) (HNE.out _ (by omega)); have gc1 := (gc 0).trans ((HAL.out _ _ zo2).trans q1); have gz1 := (gz 0).trans ((HAF.out _ _ zo2).trans q2); have gm1 := (gm 0).trans ((HAL.out _ _ zm2).trans m1); have HO2 := Lib.hid hown1; have HG1 := Lib.hid hg1; have HB1 := Lib.hid hbl1; have HP1 := Lib.hid hp1; have hzw1 := hbl1.size; clear hown1 hg1 hbl1 hp1 gc gz gm gmf)
      have hf := OutB.push (T := fun k => k = w2.heap.size + 1) (r := (Value.slice A pre.length c0).ownBlock) HI.out HZ.out H5.out HO2.out HG1.out (fun k hk => by
          cases A with
          | none => simp [Value.ownBlock] at hk
          | some p => simp [Value.ownBlock] at hk; exact ⟨p, rfl, hk⟩) HB1.out (by omega) (by omega) HP1.out gc1 gz1 (.inl rfl)
      exact ⟨hf.1, rfl, hf.2, HTK.out, by simp; omega⟩
  case done =>
    rintro Dd N xs W hD hND hN0 rfl ⟨hI, hp⟩ hK
    have : six.length = 6 := rfl
    omega
  case stop =>
    rintro Dd N c pre W hD hND hN0 hSp hIx hK
    cases c
    case exit id =>
      obtain ⟨rfl, hI, hT, hlen⟩ := hIx
      refine wpIn_wide.2 ?_
      obtain ⟨A, c, h2, h4⟩ := hI.fin
      have HI := Lib.hid hI
      have HK := Lib.hid hK
      have HND := Lib.hid hND
      have zo := cell_lt h2
      have hX : six.take (k + 1) = pre := by rw [← hlen]; exact pre_take1 hT
      have HX := Lib.hid hX
      have m1 : W.cell? ⟨w2.heap.size, 0, none⟩ = some (.int .i64 (1 + (k : Int))) := ((hI.up.at_ w2.heap.size (by omega) (by omega)).1 0).trans HC1.out
      have zm := cell_lt m1
      have H4 := Lib.hid h4
      have HLN := Lib.hid hlen
      have HND0 := Lib.hid (show Dd < W.heap.size from (Array.getElem?_eq_some_iff.1 hK).1)
      clear hI hK hND h4 hX hT hlen
      go_wp2_with (first
        | (go_at_call 15; with_reducible refine (nil_code _ _).mono ?_; rintro e w4 ⟨rfl, rfl⟩)
        | (go_at_call 41; with_reducible refine (nil_codes _ _).mono ?_; rintro e w4 ⟨rfl, rfl⟩)
        | (go_at_call 45; with_reducible refine (is_is x _).mono ?_; rintro e w4 ⟨rfl, rfl⟩))
      have HRD := Lib.hid (show ∀ W', Up W W' → Reads W' W'.heap.size 1 A pre.length (ns (six.take (1 + k))) from fun W' hu => by rw [Nat.add_comm 1 k, HX.out]; exact (H4.out.reads).up hu)
      obtain ⟨pl, hpl⟩ : ∃ pl, pre.length = pl := ⟨_, rfl⟩
      have HPL := Lib.hid (show pl = 1 + k by have := HLN.out; omega)
      rw [hpl] at HRD h2
      clear hpl
      have k0 : (0 : Int) ≤ 1 + (k : Int) := by omega
      have k1 : (1 : Int) + (k : Int) ≤ 6 := by omega
      obtain ⟨r, hr⟩ : ∃ r, isPage x = r := ⟨_, rfl⟩
      rw [hr] at HNW ⊢
      clear hr
      rcases HNW.out with ⟨rfl, ⟨b, rfl⟩, rfl⟩ | ⟨rfl, rfl, rfl⟩
      all_goals
        refine wp_region_mix (NS := [(70, (RN 6)), (72, (RN (1 + k))), (91, RSl [1])]) [70, 72, 91] rfl (by kernel_rfl) (by kernel_rfl) (by simp) (by intro p hp; simp only [List.mem_cons, List.mem_nil_iff, or_false] at hp; rcases hp with rfl | rfl | rfl; all_goals (first | exact rsl_up _ | exact rptr_up _ | exact rms_up _ | exact spanAt_up _ _ _ _ _ | exact rcs_up _ | exact rfb_up _ _ | exact rbx_up _ | exact rop_up _ _ _ _ _ _ _ _ | exact rn_up _)) ?_
        repeat (first
          | (refine mix_skip rfl rfl ?_; simp only [Act.put, List.setIfInBounds_toArray, List.set_cons_succ, List.set_cons_zero])
          | (refine mix_q rfl rfl rfl (by kernel_rfl) rfl rfl rfl ?_
             apply Exists.intro
             refine ⟨fun Wm => ?_, ?_⟩
             · simp only [fin]
               repeat (rintro (vm : Value) hvm; first | (obtain ⟨gm, om, rfl, hgm, hcm⟩ := hvm) | (obtain ⟨gm, om, cm, rfl, h2m, hxm, hgm, hcm, hdm⟩ := rsl_two hvm) | (obtain ⟨Am, nm, cm, rfl, hnm, hlm, hmm, hrm⟩ := hvm; (try simp only [List.length_cons, List.length_nil, Nat.zero_add, Nat.reduceAdd] at hnm); subst hnm) | (have hvs := hvm; obtain ⟨bm1, bm2, bm3, rfl, hbl, hbz, hbc⟩ := hvm) | (obtain ⟨gm, rfl, hbm, hlm⟩ := hvm))
               intro K hK
               go_wp2_with ((first | (go_at_call 47; (with_reducible refine (numbers_lit _).mono ?_); rintro e w' ⟨gx, rfl, hRx, hux⟩) | (go_at_call 46; (with_reducible refine (eq_rn (HRD.out _ (up_upOf _ _)) hcm).mono ?_); rintro e w' ⟨rfl, hux⟩) | (go_at_call 19; (with_reducible refine (nil_number _).mono ?_); rintro e w' ⟨rfl, rfl⟩) | (go_at_call 17; (with_reducible refine (nil_sign _ _).mono ?_); rintro e w' ⟨rfl, rfl⟩) | (go_at_call 40; (with_reducible refine (nil_text _ _).mono ?_); rintro e w' ⟨rfl, rfl⟩) | (go_at_call 20; (with_reducible refine (nil_upper _ _).mono ?_); rintro e w' ⟨rfl, rfl⟩)))
               refine hK _ _ ?_ ?_ ?_
               · (repeat (first | with_reducible exact Up.refl _ | with_reducible refine Up.alloc ?_ _ | with_reducible refine Up.drew ?_ | with_reducible refine Up.drewN ?_ _ | with_reducible refine Up.setCell ?_ (by (try simp) <;> omega) _ | with_reducible assumption | with_reducible refine Up.trans ?_ (by assumption)))
               · rfl
               · exact tmps_at rfl
             simp only [Act.put, List.setIfInBounds_toArray, List.set_cons_succ, List.set_cons_zero])
          | (refine mix_n rfl rfl rfl (by kernel_rfl) rfl rfl rfl ?_ ?_
             · intro Wm
               simp only [fin]
               repeat (rintro (vm : Value) hvm; first | (obtain ⟨gm, om, rfl, hgm, hcm⟩ := hvm) | (obtain ⟨gm, om, cm, rfl, h2m, hxm, hgm, hcm, hdm⟩ := rsl_two hvm) | (obtain ⟨Am, nm, cm, rfl, hnm, hlm, hmm, hrm⟩ := hvm; (try simp only [List.length_cons, List.length_nil, Nat.zero_add, Nat.reduceAdd] at hnm); subst hnm) | (have hvs := hvm; obtain ⟨bm1, bm2, bm3, rfl, hbl, hbz, hbc⟩ := hvm) | (obtain ⟨gm, rfl, hbm, hlm⟩ := hvm))
               intro K hK
               go_wp2_with ((first | (go_at_call 47; (with_reducible refine (numbers_lit _).mono ?_); rintro e w' ⟨gx, rfl, hRx, hux⟩) | (go_at_call 46; (with_reducible refine (eq_rn (HRD.out _ (up_upOf _ _)) hcm).mono ?_); rintro e w' ⟨rfl, hux⟩) | (go_at_call 19; (with_reducible refine (nil_number _).mono ?_); rintro e w' ⟨rfl, rfl⟩) | (go_at_call 17; (with_reducible refine (nil_sign _ _).mono ?_); rintro e w' ⟨rfl, rfl⟩) | (go_at_call 40; (with_reducible refine (nil_text _ _).mono ?_); rintro e w' ⟨rfl, rfl⟩) | (go_at_call 20; (with_reducible refine (nil_upper _ _).mono ?_); rintro e w' ⟨rfl, rfl⟩)))
               apply hK
               · (repeat (first | with_reducible exact Up.refl _ | with_reducible refine Up.alloc ?_ _ | with_reducible refine Up.drew ?_ | with_reducible refine Up.drewN ?_ _ | with_reducible refine Up.setCell ?_ (by (try simp) <;> omega) _ | with_reducible assumption | with_reducible refine Up.trans ?_ (by assumption)))
               · rfl
               · exact tmps_at rfl
               · first | exact rsl_lit _ _ _ _ _ _ rfl rfl (by simp [maxLen]) rfl | exact ⟨_, _, rfl, hgm, hcm⟩ | exact ⟨_, _, rfl, hgm, hdm⟩ | exact rn_take hgm hcm (by omega) | assumption | exact rbx_new _ _ (Nat.le_trans (by simp) (up_upOf _ _).size)
             simp only [Act.put, List.setIfInBounds_toArray, List.set_cons_succ, List.set_cons_zero]))
        refine mix_nil ?_
        intro w9 hb_w9
        simp only [fin]
        intro vm_w9_0 hvm_w9_0
        intro vm_w9_1 hvm_w9_1
        intro vm_w9_2 hvm_w9_2
        simp only [Act.put, List.setIfInBounds_toArray, List.set_cons_succ, List.set_cons_zero]
        have hu_w9 : Up W w9 := by (repeat (first | with_reducible exact Up.refl _ | with_reducible refine Up.alloc ?_ _ | with_reducible refine Up.drew ?_ | with_reducible refine Up.drewN ?_ _ | with_reducible refine Up.setCell ?_ (by (try simp) <;> omega) _ | with_reducible assumption | with_reducible refine Up.trans ?_ (by assumption)))
        have hz_w9 := Up.size hb_w9
        try simp at hz_w9
        obtain ⟨bc_w9_0, bf_w9_0⟩ := hu_w9.at_ (w2.heap.size) (by omega)
        obtain ⟨bc_w9_1, bf_w9_1⟩ := hu_w9.at_ (w2.heap.size + 1) (by omega)
        have zb_w9_0 : w2.heap.size < w9.heap.size := by omega
        have zb_w9_1 : w2.heap.size + 1 < w9.heap.size := by omega
        go_wp2_with fail
        refine ⟨by simp, .inl ⟨_, _, rfl, run_takeDeferred ((hb_w9.block _ HND0.out).trans HK.out), ?_⟩⟩
        exact ⟨_, results_tmp rfl _ _ _, rfl, HU.out.keep ((HI.out.up.up hb_w9).past2 (keep_put (N := fun k => k = Dd) _ rfl) (fun i hi => .inl (by subst hi; exact hD))) (fun i hi => by omega)⟩
    all_goals exact hIx.elim
end Go.Proofs.Ythdoighlfoinaaa
