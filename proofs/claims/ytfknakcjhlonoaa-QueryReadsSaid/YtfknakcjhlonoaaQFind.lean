/-
  query's find, at, Size and Number, and the reference's Number. No condition but the slices' own reach.
-/
import Derived.Test.YtfknakcjhlonoaaQPar
import Derived.Test.YtfknakcjhlonoaaMix
namespace Go.Proofs.Ytfknakcjhlonoaa
open Go.RowKit
set_option linter.unusedVariables false
set_option linter.unusedSimpArgs false

theorem find_hit {L : List (List Int)} {p : List Int → Bool} {j : Nat} {d : List Int} (hb : ∀ y ∈ L.take j, p y = false) (hj : L[j]? = some d) (hp : p d = true) : L.find? p = some d := by
  have hlt := (List.getElem?_eq_some_iff.1 hj).1
  have e : L = L.take j ++ d :: L.drop (j + 1) := by
    have h1 := (List.take_append_drop (j + 1) L).symm
    rw [take_snoc hj] at h1
    simpa using h1
  rw [e, List.find?_append, List.find?_eq_none.2 (fun y hy => by rw [hb y hy]; simp), List.find?_cons, hp]
  rfl
theorem find_no {L : List (List Int)} {p : List Int → Bool} (hb : ∀ y ∈ L, p y = false) : L.find? p = none := List.find?_eq_none.2 (fun y hy => by rw [hb y hy]; simp)
/-- the first reply of a code, if it has so many bytes -/
def hitOf (L : List (List Int)) (code : Int) (size : Nat) : Option (List Int) := (L.find? fun d => hd d == code).bind fun d => if d.length < size then none else some d
theorem hit_yes {L : List (List Int)} {code : Int} {size j : Nat} {d : List Int} (hb : ∀ y ∈ L.take j, (hd y == code) = false) (hj : L[j]? = some d) (hp : (hd d == code) = true) (hs : ¬ d.length < size) : hitOf L code size = some d := by
  unfold hitOf
  rw [find_hit (p := fun d => hd d == code) hb hj hp, Option.bind_some, if_neg hs]
theorem hit_few {L : List (List Int)} {code : Int} {size j : Nat} {d : List Int} (hb : ∀ y ∈ L.take j, (hd y == code) = false) (hj : L[j]? = some d) (hp : (hd d == code) = true) (hs : d.length < size) : hitOf L code size = none := by
  unfold hitOf
  rw [find_hit (p := fun d => hd d == code) hb hj hp, Option.bind_some, if_pos hs]
theorem hit_no {L : List (List Int)} {code : Int} {size : Nat} (hb : ∀ y ∈ L, (hd y == code) = false) : hitOf L code size = none := by
  unfold hitOf
  rw [find_no (p := fun d => hd d == code) hb]
  rfl
theorem hit_len {L : List (List Int)} {code : Int} {size : Nat} {d : List Int} (h : hitOf L code size = some d) : size ≤ d.length := by
  unfold hitOf at h
  cases hf : L.find? (fun d => hd d == code) with
  | none => rw [hf] at h; cases h
  | some x =>
    rw [hf, Option.bind_some] at h
    split at h
    · cases h
    · rename_i h2
      injection h with h
      subst h
      omega
def two_ (d : List Int) (i : Nat) : Int := 256 * d.getD i 0 + d.getD (i + 1) 0
def FindPost (w : World) (o : Option (List Int)) (e : Ending) (w' : World) : Prop :=
  Up w w' ∧ ((o = none ∧ e = .returned (.slice none 0 0)) ∨ ∃ d g off c, o = some d ∧ e = .returned (.slice (some ⟨g, off, none⟩) d.length c) ∧ Sl w.heap.size w' (some ⟨g, off, none⟩) d.length c d)
set_option maxRecDepth 100000 in
set_option maxHeartbeats 6400000 in
theorem find_is {B n c : Nat} {A : Option Addr} {l : List Int} {code : Int} {size : Nat}  {w : World} (h : Sl B w A n c l) (hz : 0 < size) (hz2 : size ≤ 65536) :
    Calls Try.prog 25 #[.slice A n c, .int .u8 code, .int .i64 (size : Int)] w (FindPost w (hitOf (repsOf l).1 code size)) := by
  have HS := Lib.hid h
  clear h
  have hpos := Lib.hid (reps_pos (l := l))
  have hlen := Lib.hid (reps_len (l := l))
  obtain ⟨R, hR⟩ : ∃ R, repsOf l = R := ⟨_, rfl⟩
  have hrep := replies_is HS.out
  have hsm := HS.out.small
  have hln := HS.out.len
  rw [hR] at hpos hlen hrep
  rw [hR]
  have HREP := Lib.hid hrep
  clear hrep
  go_enter Try.func25, Try.ntmps25
  go_wp2_with fail
  refine HREP.out.mono ?_
  rintro e w1 ⟨AF, cF, xs, rfl, hfl, hmap, hu1⟩
  obtain ⟨N, hN⟩ : ∃ N, xs.length = N := ⟨_, rfl⟩
  have hN6 : N ≤ 65536 := by
    have h1 := congrArg List.length hmap
    have h2 := hlen.out
    rw [List.length_map] at h1
    omega
  rw [hN]
  have HF := Lib.hid hfl
  have HMP := Lib.hid hmap
  have HU1 := Lib.hid hu1
  have HN := Lib.hid hN
  clear hfl hmap hu1 hN hsm hln
  go_wp2_with fail
  go_loopw [18] (fun i wr => ∃ j : Nat, i = .int .i64 (j : Int) ∧ j ≤ N ∧ (∀ y ∈ R.1.take j, (hd y == code) = false) ∧ Up w1 wr) (fun i _ => N - (intOf i).toNat)
  case atStart => exact ⟨0, rfl, Nat.zero_le _, (by simp), Up.refl _⟩
  case round =>
    obtain ⟨j, rfl, hj, hbef, hup⟩ := hrel
    have HBE := Lib.hid hbef
    have HUP := Lib.hid hup
    clear hbef hup
    by_cases hlt : j < N
    · obtain ⟨x, hx⟩ : ∃ x, xs[j]? = some x := ⟨_, List.getElem?_eq_getElem (by have := HN.out; omega)⟩
      obtain ⟨bf, rfl, hbf, x0, sx⟩ := bs_at (HF.out.up HUP.out) hx
      obtain ⟨Ax, cx, d⟩ := x
      simp only at x0 sx
      have hdj : R.1[j]? = some d := by rw [← HMP.out, List.getElem?_map, hx]; rfl
      have hd0 : d.length ≠ 0 := hpos.out d (List.mem_of_getElem? hdj)
      obtain ⟨g, off, rfl, hg⟩ := sx.form (by omega)
      have hcell := sx.cell (i := 0) (by omega)
      rw [Nat.add_zero] at hcell
      obtain ⟨v, hv⟩ : ∃ v, d.getD 0 0 = v := ⟨_, rfl⟩
      rw [hv] at hcell
      have HV := Lib.hid (show hd d = v from hv)
      have HX := Lib.hid hdj
      have SX := Lib.hid sx
      have hdl : (0 : Int) < (d.length : Int) := by omega
      have hdl6 : (d.length : Int) ≤ 65536 := by have := sx.small; omega
      have hlt' : (j : Int) < N := by omega
      clear sx hx hv hd0 hdj
      by_cases hvc : (v == code) = true
      · have HVC := Lib.hid (show (hd d == code) = true by rw [HV.out]; exact hvc)
        have hvc' : (v != code) = false := by simp at hvc ⊢; exact hvc
        by_cases hsz : (d.length : Int) < (size : Int)
        · have HSZ := Lib.hid (hit_few (size := size) HBE.out HX.out HVC.out (by omega))
          go_wp2_with fail
          go_ret
          rw [HSZ.out]
          exact ⟨HU1.out.trans HUP.out, .inl ⟨rfl, rfl⟩⟩
        · have HSZ := Lib.hid (hit_yes (size := size) HBE.out HX.out HVC.out (by omega))
          go_wp2_with fail
          go_ret
          rw [HSZ.out]
          exact ⟨HU1.out.trans HUP.out, .inr ⟨d, g, off, cx, rfl, rfl, SX.out⟩⟩
      · have hvc' : (v == code) = false := by simpa using hvc
        have hvc2 : (v != code) = true := by simp at hvc' ⊢; exact hvc'
        have HVC := Lib.hid (show (hd d == code) = false by rw [HV.out]; exact hvc')
        clear hvc
        go_wp2_with fail
        go_roundw
        case rel =>
          refine ⟨j + 1, by go_num, by omega, ?_, HUP.out⟩
          intro y hy
          rw [take_snoc HX.out] at hy
          rcases List.mem_append.1 hy with hy | hy
          · exact HBE.out y hy
          · rw [List.mem_singleton.1 hy]; exact HVC.out
        case measure => simp [intOf]; omega
    · obtain rfl : j = N := by omega
      have hall : R.1.take j = R.1 := List.take_of_length_le (by rw [← HMP.out, List.length_map, HN.out]; exact Nat.le_refl _)
      have HNO := Lib.hid (hit_no (L := R.1) (code := code) (size := size) (by rw [← hall]; exact HBE.out))
      clear hall
      go_wp2_with fail
      go_ret
      rw [HNO.out]
      exact ⟨HU1.out.trans HUP.out, .inl ⟨rfl, rfl⟩⟩
theorem at_is {B g off n c : Nat} {d : List Int} {w : World} {i : Nat} {v : Int} (h : Sl B w (some ⟨g, off, none⟩) n c d) (hi : i + 1 < n) (hv : two_ d i = v) :
    Calls Try.prog 26 #[.slice (some ⟨g, off, none⟩) n c, .int .i64 (i : Int)] w fun e w' => e = .returned (.int .i64 v) ∧ Up w w' := by
  have c0 := h.cell (i := i) (by omega)
  have c1 := h.cell (i := i + 1) hi
  have b0 := h.byte (i := i)
  have b1 := h.byte (i := i + 1)
  have hg : g < w.heap.size := h.lt rfl
  have hn6 := h.small
  obtain ⟨x, hx⟩ : ∃ x, d.getD i 0 = x := ⟨_, rfl⟩
  obtain ⟨y, hy⟩ : ∃ y, d.getD (i + 1) 0 = y := ⟨_, rfl⟩
  unfold two_ at hv
  rw [hx] at c0 b0 hv
  rw [hy] at c1 b1 hv
  have hb := bits_two b0 b1
  have hnat : (((256 * x + y).toNat : Nat) : Int) = v := by omega
  have HN := Lib.hid hnat
  obtain ⟨x0, x1⟩ := b0
  obtain ⟨y0, y1⟩ := b1
  have hi1 : (i : Int) + 1 < (n : Int) := by omega
  have hi0 : (i : Int) < (n : Int) := by omega
  have hi9 : (i : Int) ≤ 65536 := by omega
  have HV := Lib.hid hv
  clear h hx hy hnat hv
  have c2 := c1
  rw [show off + (i + 1) = off + i + 1 by omega] at c2
  go_enter Try.func26, Try.ntmps26
  go_wp2_with fail
  refine wp_region_mix (NS := []) [] rfl (by kernel_rfl) (by kernel_rfl) (by simp) (by simp) ?_
  repeat (first
    | (refine mix_skip rfl rfl ?_; simp only [Act.put, List.setIfInBounds_toArray, List.set_cons_succ, List.set_cons_zero])
    | (refine mix_q rfl rfl rfl (by kernel_rfl) rfl rfl rfl ?_
       apply Exists.intro
       refine ⟨fun Wm => ?_, ?_⟩
       · simp only [fin]
         skip
         intro K hK
         go_wp2_with (fail)
         refine hK _ _ ?_ ?_ ?_
         · (repeat (first | with_reducible exact Up.refl _ | with_reducible refine Up.alloc ?_ _ | with_reducible refine Up.drew ?_ | with_reducible refine Up.drewN ?_ _ | with_reducible refine Up.setCell ?_ (by (try simp) <;> omega) _ | with_reducible assumption | with_reducible refine Up.trans ?_ (by assumption)))
         · rfl
         · exact tmps_at rfl
       simp only [Act.put, List.setIfInBounds_toArray, List.set_cons_succ, List.set_cons_zero]))
  refine mix_nil ?_
  intro w1 hb_w1
  simp only [fin]
  have hu_w1 : Up w w1 := by (repeat (first | with_reducible exact Up.refl _ | with_reducible refine Up.alloc ?_ _ | with_reducible refine Up.drew ?_ | with_reducible refine Up.drewN ?_ _ | with_reducible refine Up.setCell ?_ (by (try simp) <;> omega) _ | with_reducible assumption | with_reducible refine Up.trans ?_ (by assumption)))
  have hz_w1 := Up.size hb_w1
  try simp at hz_w1
  obtain ⟨bd_w1_0, be_w1_0⟩ := hb_w1.at_ (g) (by (try simp) <;> omega)
  have zb_w1_0 : g < w1.heap.size := by omega
  go_wp2_with fail
  go_ret
  exact ⟨ret_int (by have := HV.out; omega), hu_w1⟩
theorem eql_some (w : World) (a : Addr) (n c : Nat) : (binOp .eql 22 (.slice (some a) n c) (.slice none 0 0)).run Try.prog w = .ok (.bool false) w := by
  have h : ∀ d : Nat, (Op.equalIn (d + 1) 22 (.slice (some a) n c) (.slice none 0 0)).run Try.prog w = .ok false w := fun d => by
    simp [Op.equalIn, run_underlying Try.underlying22]
  simp only [binOp]
  simp [Op.equal, Op.maxDepth, h 9999]
theorem eql_none (w : World) (n c : Nat) : (binOp .eql 22 (.slice none n c) (.slice none 0 0)).run Try.prog w = .ok (.bool true) w := by
  have h : ∀ d : Nat, (Op.equalIn (d + 1) 22 (.slice none n c) (.slice none 0 0)).run Try.prog w = .ok true w := fun d => by
    simp [Op.equalIn, run_underlying Try.underlying22]
  simp only [binOp]
  simp [Op.equal, Op.maxDepth, h 9999]
attribute [local go_sem] eql_some eql_none
def SizePost (w : World) (o : Option (List Int)) (e : Ending) (w' : World) : Prop :=
  Up w w' ∧ ((o = none ∧ e = .returned (.tuple #[.int .i64 0, .int .i64 0, .bool false])) ∨ ∃ d, o = some d ∧ e = .returned (.tuple #[.int .i64 (two_ d 5), .int .i64 (two_ d 3), .bool true]) ∧ ∀ i, 0 ≤ two_ d i ∧ two_ d i ≤ 65535)
def NumPost (w : World) (o : Option (List Int)) (e : Ending) (w' : World) : Prop :=
  Up w w' ∧ ((o = none ∧ e = .returned (.tuple #[.int .i64 0, .bool false])) ∨ ∃ d, o = some d ∧ e = .returned (.tuple #[.int .i64 (two_ d 13), .bool true]) ∧ ∀ i, 0 ≤ two_ d i ∧ two_ d i ≤ 65535)
set_option maxRecDepth 100000 in
set_option maxHeartbeats 1600000 in
theorem size_is {B n c : Nat} {A : Option Addr} {l : List Int} {w : World} (h : Sl B w A n c l) :
    Calls Try.prog 10 #[.slice A n c] w (SizePost w (hitOf (repsOf l).1 129 7)) := by
  have HF := Lib.hid (find_is (code := 129) (size := 7) h (by omega) (by omega))
  clear h
  obtain ⟨o, ho⟩ : ∃ o, hitOf (repsOf l).1 129 7 = o := ⟨_, rfl⟩
  have HL := Lib.hid (fun d (hd : o = some d) => hit_len (ho.trans hd))
  rw [ho] at HF
  rw [ho]
  clear ho
  go_enter Try.func10, Try.ntmps10
  go_wp2_with fail
  refine HF.out.mono ?_
  rintro e w1 ⟨hu, (⟨ho, rfl⟩ | ⟨d, g, off, cx, ho, rfl, hs⟩)⟩
  · have HO := Lib.hid ho
    have HU := Lib.hid hu
    clear ho hu
    go_wp2_with fail
    go_ret3
    exact ⟨HU.out, .inl ⟨HO.out, rfl⟩⟩
  · have hl := HL.out d ho
    have HO := Lib.hid ho
    have HU := Lib.hid hu
    have HS := Lib.hid hs
    clear ho hu hs
    go_wp2_with fail
    refine (at_is (i := 5) HS.out (by omega) rfl).mono ?_
    rintro e w2 ⟨rfl, hu2⟩
    have HU2 := Lib.hid hu2
    clear hu2
    go_wp2_with fail
    refine (at_is (i := 3) (HS.out.up HU2.out) (by omega) rfl).mono ?_
    rintro e w3 ⟨rfl, hu3⟩
    have HU3 := Lib.hid hu3
    clear hu3
    go_wp2_with fail
    go_ret3
    exact ⟨(HU.out.trans HU2.out).trans HU3.out, .inr ⟨d, HO.out, rfl, fun i => by have := HS.out.byte (i := i); have := HS.out.byte (i := i + 1); unfold two_; omega⟩⟩
set_option maxRecDepth 100000 in
set_option maxHeartbeats 1600000 in
theorem number_is {B n c : Nat} {A : Option Addr} {l : List Int} {w : World} (h : Sl B w A n c l) :
    Calls Try.prog 11 #[.slice A n c] w (NumPost w (hitOf (repsOf l).1 133 15)) := by
  have HF := Lib.hid (find_is (code := 133) (size := 15) h (by omega) (by omega))
  clear h
  obtain ⟨o, ho⟩ : ∃ o, hitOf (repsOf l).1 133 15 = o := ⟨_, rfl⟩
  have HL := Lib.hid (fun d (hd : o = some d) => hit_len (ho.trans hd))
  rw [ho] at HF
  rw [ho]
  clear ho
  go_enter Try.func11, Try.ntmps11
  go_wp2_with fail
  refine HF.out.mono ?_
  rintro e w1 ⟨hu, (⟨ho, rfl⟩ | ⟨d, g, off, cx, ho, rfl, hs⟩)⟩
  · have HO := Lib.hid ho
    have HU := Lib.hid hu
    clear ho hu
    go_wp2_with fail
    go_ret2
    exact ⟨HU.out, .inl ⟨HO.out, rfl⟩⟩
  · have hl := HL.out d ho
    have HO := Lib.hid ho
    have HU := Lib.hid hu
    have HS := Lib.hid hs
    clear ho hu hs
    go_wp2_with fail
    refine (at_is (i := 13) HS.out (by omega) rfl).mono ?_
    rintro e w2 ⟨rfl, hu2⟩
    have HU2 := Lib.hid hu2
    clear hu2
    go_wp2_with fail
    go_ret2
    exact ⟨HU.out.trans HU2.out, .inr ⟨d, HO.out, rfl, fun i => by have := HS.out.byte (i := i); have := HS.out.byte (i := i + 1); unfold two_; omega⟩⟩
def valOf (o : Option (List Int)) (i : Nat) : Int := match o with | none => -1 | some d => two_ d i
set_option maxRecDepth 100000 in
set_option maxHeartbeats 6400000 in
theorem rnum_is {B n c : Nat} {A : Option Addr} {l : List Int} {code : Int} {size : Nat} {at_ : Nat} {w : World} (h : Sl B w A n c l) (hz : 0 < size) (hz2 : size ≤ 65536) (hat : at_ + 1 < size) :
    Calls Try.prog 18 #[.slice A n c, .int .u8 code, .int .i64 (at_ : Int), .int .i64 (size : Int)] w (fun e w' => e = .returned (.int .i64 (valOf (hitOf (repsOf l).1 code size) at_)) ∧ Up w w') := by
  have HS := Lib.hid h
  clear h
  have hpos := Lib.hid (reps_pos (l := l))
  have hlen := Lib.hid (reps_len (l := l))
  obtain ⟨R, hR⟩ : ∃ R, repsOf l = R := ⟨_, rfl⟩
  have hrep := rrep_is HS.out
  have hsm := HS.out.small
  have hln := HS.out.len
  rw [hR] at hpos hlen hrep
  rw [hR]
  have HREP := Lib.hid hrep
  clear hrep
  go_enter Try.func18, Try.ntmps18
  go_wp2_with fail
  refine HREP.out.mono ?_
  rintro e w1 ⟨AF, cF, xs, rfl, hfl, hmap, hu1⟩
  obtain ⟨N, hN⟩ : ∃ N, xs.length = N := ⟨_, rfl⟩
  have hN6 : N ≤ 65536 := by
    have h1 := congrArg List.length hmap
    have h2 := hlen.out
    rw [List.length_map] at h1
    omega
  rw [hN]
  have HF := Lib.hid hfl
  have HMP := Lib.hid hmap
  have HU1 := Lib.hid hu1
  have HN := Lib.hid hN
  clear hfl hmap hu1 hN hsm hln
  go_wp2_with fail
  go_loopw [20] (fun i wr => ∃ j : Nat, i = .int .i64 (j : Int) ∧ j ≤ N ∧ (∀ y ∈ R.1.take j, (hd y == code) = false) ∧ Up w1 wr) (fun i _ => N - (intOf i).toNat)
  case atStart => exact ⟨0, rfl, Nat.zero_le _, (by simp), Up.refl _⟩
  case round =>
    obtain ⟨j, rfl, hj, hbef, hup⟩ := hrel
    have HBE := Lib.hid hbef
    have HUP := Lib.hid hup
    clear hbef hup
    by_cases hlt : j < N
    · obtain ⟨x, hx⟩ : ∃ x, xs[j]? = some x := ⟨_, List.getElem?_eq_getElem (by have := HN.out; omega)⟩
      obtain ⟨bf, rfl, hbf, x0, sx⟩ := bs_at (HF.out.up HUP.out) hx
      obtain ⟨Ax, cx, d⟩ := x
      simp only at x0 sx
      have hdj : R.1[j]? = some d := by rw [← HMP.out, List.getElem?_map, hx]; rfl
      have hd0 : d.length ≠ 0 := hpos.out d (List.mem_of_getElem? hdj)
      obtain ⟨g, off, rfl, hg⟩ := sx.form (by omega)
      have hcell := sx.cell (i := 0) (by omega)
      rw [Nat.add_zero] at hcell
      obtain ⟨v, hv⟩ : ∃ v, d.getD 0 0 = v := ⟨_, rfl⟩
      rw [hv] at hcell
      have HV := Lib.hid (show hd d = v from hv)
      have HX := Lib.hid hdj
      have SX := Lib.hid sx
      have hdl : (0 : Int) < (d.length : Int) := by omega
      have hdl6 : (d.length : Int) ≤ 65536 := by have := sx.small; omega
      have hlt' : (j : Int) < N := by omega
      clear sx hx hv hd0 hdj
      by_cases hvc : (v == code) = true
      · have HVC := Lib.hid (show (hd d == code) = true by rw [HV.out]; exact hvc)
        have hvc' : (v != code) = false := by simp at hvc ⊢; exact hvc
        by_cases hsz : (d.length : Int) < (size : Int)
        · have HSZ := Lib.hid (hit_few (size := size) HBE.out HX.out HVC.out (by omega))
          go_wp2_with fail
          go_ret
          rw [HSZ.out]
          exact ⟨rfl, HU1.out.trans HUP.out⟩
        · have HSZ := Lib.hid (hit_yes (size := size) HBE.out HX.out HVC.out (by omega))
          have hs := hit_len HSZ.out
          have c0 := SX.out.cell (i := at_) (by omega)
          have c1 := SX.out.cell (i := at_ + 1) (by omega)
          have b0 := SX.out.byte (i := at_)
          have b1 := SX.out.byte (i := at_ + 1)
          have hvv : valOf (some d) at_ = 256 * d.getD at_ 0 + d.getD (at_ + 1) 0 := rfl
          obtain ⟨x, hx⟩ : ∃ x, d.getD at_ 0 = x := ⟨_, rfl⟩
          obtain ⟨y, hy⟩ : ∃ y, d.getD (at_ + 1) 0 = y := ⟨_, rfl⟩
          rw [hx] at c0 b0 hvv
          rw [hy] at c1 b1 hvv
          have HVV := Lib.hid hvv
          obtain ⟨x0, x1⟩ := b0
          obtain ⟨y0, y1⟩ := b1
          have hi1 : (at_ : Int) + 1 < (d.length : Int) := by omega
          have hi0 : (at_ : Int) < (d.length : Int) := by omega
          have hi9 : (at_ : Int) ≤ 65536 := by omega
          have c2 := c1
          rw [show off + (at_ + 1) = off + at_ + 1 by omega] at c2
          clear hx hy hvv hs
          go_wp2_with fail
          refine wp_region_mix (NS := []) [] rfl (by kernel_rfl) (by kernel_rfl) (by simp) (by simp) ?_
          repeat (first
            | (refine mix_skip rfl rfl ?_; simp only [Act.put, List.setIfInBounds_toArray, List.set_cons_succ, List.set_cons_zero])
            | (refine mix_q rfl rfl rfl (by kernel_rfl) rfl rfl rfl ?_
               apply Exists.intro
               refine ⟨fun Wm => ?_, ?_⟩
               · simp only [fin]
                 skip
                 intro K hK
                 go_wp2_with (fail)
                 refine hK _ _ ?_ ?_ ?_
                 · (repeat (first | with_reducible exact Up.refl _ | with_reducible refine Up.alloc ?_ _ | with_reducible refine Up.drew ?_ | with_reducible refine Up.drewN ?_ _ | with_reducible refine Up.setCell ?_ (by (try simp) <;> omega) _ | with_reducible assumption | with_reducible refine Up.trans ?_ (by assumption)))
                 · rfl
                 · exact tmps_at rfl
               simp only [Act.put, List.setIfInBounds_toArray, List.set_cons_succ, List.set_cons_zero]))
          refine mix_nil ?_
          intro w2 hb_w2
          simp only [fin]
          have hu_w2 : Up wr w2 := by (repeat (first | with_reducible exact Up.refl _ | with_reducible refine Up.alloc ?_ _ | with_reducible refine Up.drew ?_ | with_reducible refine Up.drewN ?_ _ | with_reducible refine Up.setCell ?_ (by (try simp) <;> omega) _ | with_reducible assumption | with_reducible refine Up.trans ?_ (by assumption)))
          have hz_w2 := Up.size hb_w2
          try simp at hz_w2
          obtain ⟨bc_w2_0, bf_w2_0⟩ := hu_w2.at_ (g) (by omega)
          have zb_w2_0 : g < w2.heap.size := by omega
          go_wp2_with fail
          go_ret
          rw [HSZ.out, HVV.out]
          exact ⟨ret_int (by first | rfl | omega), (HU1.out.trans HUP.out).trans hu_w2⟩
      · have hvc' : (v == code) = false := by simpa using hvc
        have hvc2 : (v != code) = true := by simp at hvc' ⊢; exact hvc'
        have HVC := Lib.hid (show (hd d == code) = false by rw [HV.out]; exact hvc')
        clear hvc
        go_wp2_with fail
        go_roundw
        case rel =>
          refine ⟨j + 1, by go_num, by omega, ?_, HUP.out⟩
          intro y hy
          rw [take_snoc HX.out] at hy
          rcases List.mem_append.1 hy with hy | hy
          · exact HBE.out y hy
          · rw [List.mem_singleton.1 hy]; exact HVC.out
        case measure => simp [intOf]; omega
    · obtain rfl : j = N := by omega
      have hall : R.1.take j = R.1 := List.take_of_length_le (by rw [← HMP.out, List.length_map, HN.out]; exact Nat.le_refl _)
      have HNO := Lib.hid (hit_no (L := R.1) (code := code) (size := size) (by rw [← hall]; exact HBE.out))
      clear hall
      go_wp2_with fail
      go_ret
      rw [HNO.out]
      exact ⟨rfl, HU1.out.trans HUP.out⟩
end Go.Proofs.Ytfknakcjhlonoaa
