/-
  slices.Equal over ints; the pages' numbers as an iterator. No condition.
-/
import Derived.Test.YthdoighlfoinaaaPage8
import Derived.Test.YthdoighlfoinaaaCollN
import Derived.Test.YthdoighlfoinaaaMixT
import Derived.Stop.RegionWithIn
import Derived.Shelf.Abstract
namespace Go.Proofs.Ythdoighlfoinaaa
open Go.RowKit Go.Maps Go.Shelf
set_option linter.unusedVariables false
set_option linter.unusedSimpArgs false
attribute [local go_sem] Oper.semAt_some

theorem ns_at13 (l : List Int) (i : Nat) (h : i < l.length) : (ns l)[i]? = some (.int .i64 (l.getD i 0)) := by simp [ns, List.getElem?_map, List.getElem?_eq_getElem h, List.getD]
theorem reads_ns13 {w : World} {B n : Nat} {b off : Nat} {l : List Int} (h : Reads w B 1 (some ⟨b, off, none⟩) n (ns l)) (i : Nat) (hi : i < n) : w.cell? ⟨b, off + i, none⟩ = some (.int .i64 (l.getD i 0)) ∧ b < B := by
  have hl : l.length = n := by have := h.1; rw [ns_len] at this; omega
  obtain ⟨b', off', e, hb, hc⟩ := h.2 (by omega)
  injection e with e
  injection e with e1 e2 _
  subst e1; subst e2
  exact ⟨hc _ _ (ns_at13 l i (by omega)), hb⟩
theorem int_ext13 {L L' : List Int} (hl : L.length = L'.length) (h : ∀ t, t < L.length → L.getD t 0 = L'.getD t 0) : L = L' := by
  refine List.ext_getElem hl fun t h1 h2 => ?_
  have := h t h1
  simpa [List.getD, List.getElem?_eq_getElem h1, List.getElem?_eq_getElem h2] using this
set_option maxHeartbeats 800000 in
theorem equal_i13 (A A' : Option Addr) (n n' c c' : Nat) (L L' : List Int) (w : World) (hr : Reads w w.heap.size 1 A n (ns L)) (hr' : Reads w w.heap.size 1 A' n' (ns L')) (hn : n ≤ 65536) (hn' : n' ≤ 65536) :
    Calls Try.prog 46 #[.slice A n c, .slice A' n' c'] w fun e w' => e = .returned (.bool (decide (L = L'))) ∧ Up w w' := by
  have hl : L.length = n := by have := hr.1; rw [ns_len] at this; omega
  have hl' : L'.length = n' := by have := hr'.1; rw [ns_len] at this; omega
  by_cases hne : n = n'
  · subst hne
    go_enter Try.func46, Try.ntmps46
    go_wp2
    go_loopw [13] (fun i wr => ∃ j : Nat, j ≤ n ∧ i = .int .i64 (j : Int) ∧ Up w wr ∧ ∀ t, t < j → L.getD t 0 = L'.getD t 0) (fun i _ => n - (intOf i).toNat)
    case atStart => exact ⟨0, by omega, rfl, Up.refl _, by omega⟩
    case round =>
      obtain ⟨j, hj, rfl, hup, heq⟩ := hrel
      by_cases hlt : j < n
      · obtain ⟨b, off, rfl, hb⟩ := hr.form (by omega)
        obtain ⟨b', off', rfl, hb'⟩ := hr'.form (by omega)
        obtain ⟨ca, _⟩ := reads_ns13 (hr.below hup) j hlt
        obtain ⟨ca', _⟩ := reads_ns13 (hr'.below hup) j hlt
        have q1 : (j : Int) < (n : Int) := by omega
        have HE := Lib.hid heq
        clear heq
        generalize hx : L.getD j 0 = p at *
        generalize hy : L'.getD j 0 = p' at *
        have HX := Lib.hid hx
        have HY := Lib.hid hy
        clear hx hy
        by_cases d1 : p = p'
        · subst d1
          go_wp2
          go_quiet (fail)
          go_wp2
          go_roundw
          case rel =>
            refine ⟨j + 1, by omega, by go_num, hup.drewN _, fun t ht => ?_⟩
            rcases Nat.lt_or_ge t j with h | h
            · exact HE.out t h
            · obtain rfl : t = j := by omega
              rw [HX.out, HY.out]
          case measure => simp [intOf]; omega
        · have b1 : (p != p') = true := by simpa using d1
          have HN := Lib.hid (show L ≠ L' from fun e => by have h1 := HX.out; have h2 := HY.out; rw [e] at h1; exact d1 (h1.symm.trans h2))
          clear d1
          go_wp2
          go_quiet (fail)
          go_wp2
          go_ret
          exact ⟨ret_bool (by simp [HN.out]), hup.drewN _⟩
      · obtain rfl : j = n := by omega
        have hall : L = L' := int_ext13 (by omega) (by intro t ht; exact heq t (by omega))
        have HE := Lib.hid hall
        clear hall heq
        go_wp2
        go_ret
        exact ⟨ret_bool (by simp [HE.out]), hup⟩
  · have hd : ((n : Int) == (n' : Int)) = false := by simp; omega
    have hd2 : ((n : Int) != (n' : Int)) = true := by simp; omega
    go_enter Try.func46, Try.ntmps46
    go_wp2
    go_ret
    refine ⟨ret_bool ?_, Up.refl _⟩
    have : L ≠ L' := fun e => hne (by rw [← hl, ← hl', e])
    simp [this]
theorem equal_own {A A' : Option Addr} {c c' B B' : Nat} {L : List Int} {w : World} (h : OwnI B w A L.length c L) (h' : OwnI B' w A' L.length c' L) (hn : L.length ≤ 65536) :
    Calls Try.prog 46 #[.slice A L.length c, .slice A' L.length c'] w fun e w' => e = .returned (.bool true) ∧ Up w w' := by
  refine (equal_i13 A A' L.length L.length c c' L L w h.reads h'.reads hn hn).mono ?_
  rintro e w' ⟨rfl, hu⟩
  exact ⟨by simp, hu⟩
/-- a slice of these numbers -/
def RMs (L : List Int) (v : Value) (W : World) : Prop := ∃ A n c, v = .slice A n c ∧ n = L.length ∧ True ∧ True ∧ Reads W W.heap.size 1 A n (ns L)
theorem rms_up (L : List Int) (v : Value) (W W' : World) (h : RMs L v W) (hu : Up W W') : RMs L v W' := by
  obtain ⟨A, n, c, rfl, hn, h1, h2, hr⟩ := h
  exact ⟨A, n, c, rfl, hn, h1, h2, hr.up hu⟩
theorem OwnI.told {B : Nat} {W : World} {A : Option Addr} {n c : Nat} {l : List Int} (h : OwnI B W A n c l) : RMs l (.slice A n c) W := ⟨A, n, c, rfl, h.len.symm, trivial, trivial, h.reads⟩
theorem eq_ms {A A' : Option Addr} {n n' c c' : Nat} {L : List Int} {w : World} (hr : Reads w w.heap.size 1 A n (ns L)) (hr' : Reads w w.heap.size 1 A' n' (ns L)) (hn : L.length ≤ 65536) :
    Calls Try.prog 46 #[.slice A n c, .slice A' n' c'] w fun e w' => e = .returned (.bool true) ∧ Up w w' := by
  have h1 := hr.1
  have h2 := hr'.1
  rw [ns_len] at h1 h2
  refine (equal_i13 A A' n n' c c' L L w hr hr' (by omega) (by omega)).mono ?_
  rintro e w' ⟨rfl, hu⟩
  exact ⟨by simp, hu⟩
theorem eq_rms {A A' : Option Addr} {n n' c c' : Nat} {L : List Int} {w : World} (hr : Reads w w.heap.size 1 A n (ns L)) (h' : RMs L (.slice A' n' c') w) (hn : L.length ≤ 65536) :
    Calls Try.prog 46 #[.slice A n c, .slice A' n' c'] w fun e w' => e = .returned (.bool true) ∧ Up w w' := by
  obtain ⟨B, m, d, he, _, _, _, hr'⟩ := h'
  injection he with e1 e2 e3
  subst e1; subst e2; subst e3
  exact eq_ms hr hr' hn

/-- all pages' numbers -/
def six : List Int := [37, 273, 297, 500, 1047, 1140]
theorem six_at {j : Nat} (h : j < 6) : six.getD j 0 = pageK j := rfl
theorem idx_num (j : Nat) (hj : j < 6) (w : World) : (Instr.index 104 (.agg #[.int .i64 37, .int .i64 273, .int .i64 297, .int .i64 500, .int .i64 1047, .int .i64 1140]) (.int .i64 (j : Int))).run Try.prog w = .ok (.int .i64 (pageK j)) w := by
  refine run_index_arr Try.underlying104 j hj (size := 1) (by kernel_rfl) ?_
  exact part_one Try.underlying3 rfl _ _ _ (by rw [Nat.mul_one]; exact pageK_at hj) w
theorem enters_numbers : ∀ args w, (callFunc 60 args).run Try.prog w = .ok (.enter 60 args) w := enters_of Try.func60 (by kernel_rfl) rfl
theorem six_take {j : Nat} (h : j < 6) : six.take j ++ [pageK j] = six.take (j + 1) := by
  match j, h with
  | 0, _ | 1, _ | 2, _ | 3, _ | 4, _ | 5, _ => rfl
set_option maxRecDepth 100000 in
set_option maxHeartbeats 3200000 in
theorem numbers_it : ItN Try.prog 60 #[] (fun x : Int => #[.int .i64 x]) (fun _ => False) (fun _ => True) (fun _ => True) (fun pre x _ => pre ++ [x] <+: six) (fun xs => xs = six) (fun pre => pre <+: six) := by
  intro k l J Jx N0 W hJ hJx hV hT hNz hV0 hY h0
  refine callsIn_of_wp Try.func60 rfl trivial ?_ rfl
  simp only [Try.ntmps60, List.size_toArray, List.length_cons, List.length_nil, Nat.reduceAdd, Nat.reduceSub, Array.replicate_succ, Array.replicate_zero, List.push_toArray, List.append_toArray, List.nil_append, List.cons_append]
  have HY := Lib.hid hY
  have HJ := Lib.hid hJ
  have HJx := Lib.hid hJx
  have H0 := Lib.hid h0
  clear hY hJ hJx hV h0 hT hV0 hNz
  gi_wp2
  gi_loopw [5] (fun i wr => ∃ j : Nat, j ≤ 6 ∧ i = .int .i64 (j : Int) ∧ J N0 (six.take j) wr) (fun i _ => 6 - (intOf i).toNat)
  case atStart => exact ⟨0, by omega, rfl, H0.out⟩
  case round =>
    obtain ⟨j, hj, rfl, hJs⟩ := hrel
    have HJS := Lib.hid hJs
    clear hJs
    by_cases hlt : j < 6
    · have hix := fun w => idx_num j hlt w
      have hjm : (j : Int) < 6 := by omega
      have hG : six.take j ++ [pageK j] <+: six := by rw [six_take hlt]; exact List.take_prefix _ _
      have HG := Lib.hid hG
      have HPK := Lib.hid (six_take hlt)
      clear hG
      generalize hpk : pageK j = pk at *
      clear hpk
      obtain ⟨fn, tmps, assign, body, hy, hR⟩ := HY.out N0 (six.take j) pk wr HJS.out HG.out
      have HRR := Lib.hid hR
      clear hR
      try simp only at hy
      gi_wp2
      refine ⟨fun h => by simp [Fence.wide] at h, ?_⟩
      refine HRR.out.mono ?_
      rintro e W' (⟨rfl, hJ', -⟩ | ⟨rfl, hJ', -⟩)
      · have HJ' := Lib.hid hJ'
        clear hJ'
        gi_wp2
        go_roundw
        case rel => exact ⟨j + 1, by omega, by go_num, by rw [← HPK.out]; exact HJ'.out⟩
        case measure => simp [intOf]; omega
      · have HX := Lib.hid hJ'
        clear hJ'
        gi_wp2
        refine bodyPost_ret (results_none rfl _ _ _) rfl ?_
        exact ⟨⟨_, rfl⟩, .inr ⟨_, HG.out, HX.out⟩⟩
    · obtain rfl : j = 6 := by omega
      gi_wp2
      go_end0
      exact ⟨⟨_, rfl⟩, .inl ⟨_, rfl, HJS.out⟩⟩
end Go.Proofs.Ythdoighlfoinaaa
