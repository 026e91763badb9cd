/-
  query's Parse, find, Size and Number, and the reference's. No condition but the slices' own reach.
-/
import Derived.Test.YtfknakcjhlonoaaQRep
import Derived.Test.YtfknakcjhlonoaaQRef
import Derived.Test.YtfknakcjhlonoaaApp
namespace Go.Proofs.Ytfknakcjhlonoaa
open Go.RowKit
set_option linter.unusedVariables false
set_option linter.unusedSimpArgs false

def hd (d : List Int) : Int := d.getD 0 0
def ParPost (w : World) (r : List (List Int) × Int) (e : Ending) (w' : World) : Prop :=
  ∃ A c n, e = .returned (.tuple #[.slice A n c, .int .i64 r.2]) ∧ Sl w.heap.size w' A n c (r.1.map hd) ∧ Up w w'
def BInv (w1 : World) (xs : List Inn) (j : Nat) (A : Option Addr) (c : Nat) (wr : World) : Prop :=
  wr.ownsRow w1.heap.size 5 1 (.slice A j c) j (bs ((xs.take j).map fun x => hd x.2.2)) ∧ j ≤ c ∧ c ≤ maxLen ∧ (∀ x ∈ xs.take j, 0 ≤ hd x.2.2 ∧ hd x.2.2 ≤ 255) ∧ Up w1 wr
theorem bs_snoc (l : List Int) (x : Int) : bs (l ++ [x]) = bs l ++ [.int .u8 x] := by simp [bs]
theorem bs_append_ (l m : List Int) : bs (l ++ m) = bs l ++ bs m := by simp [bs]
set_option maxRecDepth 100000 in
set_option maxHeartbeats 6400000 in
theorem parse_is {B n c : Nat} {A : Option Addr} {l : List Int} {w : World} (h : Sl B w A n c l) :
    Calls Try.prog 9 #[.slice A n c] w (ParPost w (repsOf l)) := by
  obtain ⟨i0, hi, hz0, hz1, hz2⟩ := info_parts info_u8
  have HS := Lib.hid h
  have hsm := h.small
  have hln := h.len
  clear h
  have hpos := Lib.hid (reps_pos (l := l))
  have hlen := Lib.hid (reps_len (l := l))
  have herr := Lib.hid (reps_err (l := l))
  obtain ⟨R, hR⟩ : ∃ R, repsOf l = R := ⟨_, rfl⟩
  have hrep := replies_is HS.out
  rw [hR] at hpos hlen herr hrep
  rw [hR]
  have HREP := Lib.hid hrep
  clear hrep
  go_enter Try.func9, Try.ntmps9
  go_wp2_with fail
  refine HREP.out.mono ?_
  rintro e w1 ⟨AF, cF, xs, rfl, hfl, hmap, hu1⟩
  obtain ⟨N, hN⟩ : ∃ N, xs.length = N := ⟨_, rfl⟩
  have hN6 : N ≤ 65536 := by
    have h1 := congrArg List.length hmap
    have h2 := hlen.out
    rw [List.length_map] at h1
    omega
  rw [hN]
  have HF := Lib.hid hfl
  have HMP := Lib.hid hmap
  have HU1 := Lib.hid hu1
  have HN := Lib.hid hN
  clear hfl hmap hu1 hN hsm hln
  obtain ⟨ge, hge⟩ : ∃ ge, R.2 = ge := ⟨_, rfl⟩
  have HGE := Lib.hid hge
  rw [hge]
  clear hge
  by_cases hg : ge = 0
  · subst hg
    go_wp2_with fail
    go_loopw [6, 19] (fun v i wr => ∃ (j : Nat) (A1 : Option Addr) (c1 : Nat), i = .int .i64 (j : Int) ∧ v = .slice A1 j c1 ∧ j ≤ N ∧ BInv w1 xs j A1 c1 wr) (fun _ i _ => N - (intOf i).toNat)
    case atStart => exact ⟨0, none, 0, rfl, rfl, Nat.zero_le _, World.ownsRow_nil _ _ _ _, Nat.le_refl _, by simp [maxLen], (by simp), Up.refl _⟩
    case round =>
      obtain ⟨j, A1, c1, rfl, rfl, hj, hown, hle, hmx, hby, hup⟩ := hrel
      have HOW := Lib.hid hown
      have HBY := Lib.hid hby
      have HUP := Lib.hid hup
      have hq1 : j + 1 ≤ maxLen := by simp [maxLen]; omega
      have hq2 : (j + 1) * 1 ≤ 140737488355328 := by omega
      have hwr : w1.heap.size ≤ wr.heap.size := hup.size
      clear hown hby hup
      by_cases hlt : j < N
      · obtain ⟨x, hx⟩ : ∃ x, xs[j]? = some x := ⟨_, List.getElem?_eq_getElem (by have := HN.out; omega)⟩
        obtain ⟨bf, rfl, hbf, x0, sx⟩ := bs_at (HF.out.up HUP.out) hx
        obtain ⟨Ax, cx, d⟩ := x
        simp only at x0 sx
        have hd0 : d.length ≠ 0 := hpos.out d (by
          rw [← HMP.out]
          exact List.mem_map.2 ⟨_, List.mem_of_getElem? hx, rfl⟩)
        obtain ⟨g, off, rfl, hg⟩ := sx.form (by omega)
        have hcell := sx.cell (i := 0) (by omega)
        rw [Nat.add_zero] at hcell
        have hbd := sx.byte (i := 0)
        obtain ⟨v, hv⟩ : ∃ v, d.getD 0 0 = v := ⟨_, rfl⟩
        rw [hv] at hcell hbd
        have HV := Lib.hid hv
        have HX := Lib.hid hx
        have hdl : (0 : Int) < (d.length : Int) := by omega
        have hlt' : (j : Int) < N := by omega
        have HBD := Lib.hid hbd
        clear sx hx hv hd0 hbd
        go_wp2_with (at_builtin; refine wpList_app _ rfl (.tmp 23) (.tmp 27) 22 rfl w1.heap.size 5 i0 _ 1 1 Try.underlying22 hi hz0 hz1 hz2 rfl (by decide) A1 j c1 (bs ((xs.take j).map fun x => hd x.2.2)) rfl (own_up HOW.out ((Up.refl wr).alloc _)) (wr.heap.size + 1) (some ⟨wr.heap.size, 0, none⟩) 1 1 [.int .u8 v] rfl (reads_at wr wr.heap.size 1 1 _ _ rfl rfl) (by simp [Value.oneCell']) hq1 hq2 (by simp; omega) ?_; intro A3 c3 w5 hown5 hg5 hle5 hmx5 hbl5; have HO5 := Lib.hid hown5; have HB5 := Lib.hid hbl5; clear hown5 hg5 hbl5)
        go_roundw
        case rel =>
          have hup5 : Up wr (wr.alloc (.cells #[.int .u8 v] 5)) := (Up.refl wr).alloc _
          refine ⟨j + 1, A3, c3, by first | rfl | go_num, rfl, by omega, ?_, hle5, hmx5, ?_, (HUP.out.trans hup5).past HB5.out⟩
          · rw [take_snoc HX.out, List.map_append, bs_append_]
            have e9 : bs ([((some ⟨g, off, none⟩, cx, d) : Inn)].map fun x => hd x.2.2) = [.int .u8 v] := by
              show [Value.int .u8 (d.getD 0 0)] = _
              rw [HV.out]
            rw [e9]
            exact HO5.out
          · intro y hy
            rw [take_snoc HX.out] at hy
            rcases List.mem_append.1 hy with hy | hy
            · exact HBY.out y hy
            · rw [List.mem_singleton.1 hy]
              show 0 ≤ d.getD 0 0 ∧ d.getD 0 0 ≤ 255
              rw [HV.out]; exact HBD.out
        case measure => simp [intOf]; omega
      · obtain rfl : j = N := by omega
        have hxs : xs.take j = xs := List.take_of_length_le (by rw [HN.out]; exact Nat.le_refl _)
        have hbb := HBY.out
        rw [hxs] at hbb
        have hoo := HOW.out
        rw [hxs] at hoo
        have hfin : Sl w.heap.size wr A1 j c1 (R.1.map hd) := by
          have e : (xs.map fun x => hd x.2.2) = R.1.map hd := by rw [← HMP.out, List.map_map]; rfl
          rw [← e]
          refine (Sl.of_own hoo hle hmx hN6 ?_).low HU1.out.size
          intro y hy
          obtain ⟨x, hx, rfl⟩ := List.mem_map.1 hy
          exact hbb x hx
        have HFI := Lib.hid hfin
        clear hfin hoo hbb
        go_wp2_with fail
        go_ret2
        exact ⟨A1, c1, j, by rw [HGE.out]; rfl, HFI.out, HU1.out.trans HUP.out⟩

  · have e1 : (ge != 0) = true := by simpa using hg
    have HE := Lib.hid (herr.out (by rw [HGE.out]; exact hg))
    clear hg
    go_wp2_with fail
    go_ret2
    refine ⟨none, 0, 0, by rw [HGE.out]; rfl, ?_, HU1.out⟩
    rw [HE.out]
    exact Sl.none_
set_option maxRecDepth 100000 in
set_option maxHeartbeats 6400000 in
theorem rparse_is {B n c : Nat} {A : Option Addr} {l : List Int} {w : World} (h : Sl B w A n c l) :
    Calls Try.prog 17 #[.slice A n c] w (ParPost w (repsOf l)) := by
  obtain ⟨i0, hi, hz0, hz1, hz2⟩ := info_parts info_u8
  have HS := Lib.hid h
  have hsm := h.small
  have hln := h.len
  clear h
  have hpos := Lib.hid (reps_pos (l := l))
  have hlen := Lib.hid (reps_len (l := l))
  have herr := Lib.hid (reps_err (l := l))
  obtain ⟨R, hR⟩ : ∃ R, repsOf l = R := ⟨_, rfl⟩
  have hrep := rrep_is HS.out
  rw [hR] at hpos hlen herr hrep
  rw [hR]
  have HREP := Lib.hid hrep
  clear hrep
  go_enter Try.func17, Try.ntmps17
  go_wp2_with fail
  refine HREP.out.mono ?_
  rintro e w1 ⟨AF, cF, xs, rfl, hfl, hmap, hu1⟩
  obtain ⟨N, hN⟩ : ∃ N, xs.length = N := ⟨_, rfl⟩
  have hN6 : N ≤ 65536 := by
    have h1 := congrArg List.length hmap
    have h2 := hlen.out
    rw [List.length_map] at h1
    omega
  rw [hN]
  have HF := Lib.hid hfl
  have HMP := Lib.hid hmap
  have HU1 := Lib.hid hu1
  have HN := Lib.hid hN
  clear hfl hmap hu1 hN hsm hln
  obtain ⟨ge, hge⟩ : ∃ ge, R.2 = ge := ⟨_, rfl⟩
  have HGE := Lib.hid hge
  rw [hge]
  clear hge
  go_wp2_with fail
  go_loopw [6, 16] (fun v i wr => ∃ (j : Nat) (A1 : Option Addr) (c1 : Nat), i = .int .i64 (j : Int) ∧ v = .slice A1 j c1 ∧ j ≤ N ∧ BInv w1 xs j A1 c1 wr) (fun _ i _ => N - (intOf i).toNat)
  case atStart => exact ⟨0, none, 0, rfl, rfl, Nat.zero_le _, World.ownsRow_nil _ _ _ _, Nat.le_refl _, by simp [maxLen], (by simp), Up.refl _⟩
  case round =>
    obtain ⟨j, A1, c1, rfl, rfl, hj, hown, hle, hmx, hby, hup⟩ := hrel
    have HOW := Lib.hid hown
    have HBY := Lib.hid hby
    have HUP := Lib.hid hup
    have hq1 : j + 1 ≤ maxLen := by simp [maxLen]; omega
    have hq2 : (j + 1) * 1 ≤ 140737488355328 := by omega
    have hwr : w1.heap.size ≤ wr.heap.size := hup.size
    clear hown hby hup
    by_cases hlt : j < N
    · obtain ⟨x, hx⟩ : ∃ x, xs[j]? = some x := ⟨_, List.getElem?_eq_getElem (by have := HN.out; omega)⟩
      obtain ⟨bf, rfl, hbf, x0, sx⟩ := bs_at (HF.out.up HUP.out) hx
      obtain ⟨Ax, cx, d⟩ := x
      simp only at x0 sx
      have hd0 : d.length ≠ 0 := hpos.out d (by
        rw [← HMP.out]
        exact List.mem_map.2 ⟨_, List.mem_of_getElem? hx, rfl⟩)
      obtain ⟨g, off, rfl, hg⟩ := sx.form (by omega)
      have hcell := sx.cell (i := 0) (by omega)
      rw [Nat.add_zero] at hcell
      have hbd := sx.byte (i := 0)
      obtain ⟨v, hv⟩ : ∃ v, d.getD 0 0 = v := ⟨_, rfl⟩
      rw [hv] at hcell hbd
      have HV := Lib.hid hv
      have HX := Lib.hid hx
      have hdl : (0 : Int) < (d.length : Int) := by omega
      have hlt' : (j : Int) < N := by omega
      have HBD := Lib.hid hbd
      clear sx hx hv hd0 hbd
      go_wp2_with (at_builtin; refine wpList_app _ rfl (.tmp 20) (.tmp 24) 22 rfl w1.heap.size 5 i0 _ 1 1 Try.underlying22 hi hz0 hz1 hz2 rfl (by decide) A1 j c1 (bs ((xs.take j).map fun x => hd x.2.2)) rfl (own_up HOW.out ((Up.refl wr).alloc _)) (wr.heap.size + 1) (some ⟨wr.heap.size, 0, none⟩) 1 1 [.int .u8 v] rfl (reads_at wr wr.heap.size 1 1 _ _ rfl rfl) (by simp [Value.oneCell']) hq1 hq2 (by simp; omega) ?_; intro A3 c3 w5 hown5 hg5 hle5 hmx5 hbl5; have HO5 := Lib.hid hown5; have HB5 := Lib.hid hbl5; clear hown5 hg5 hbl5)
      go_roundw
      case rel =>
        have hup5 : Up wr (wr.alloc (.cells #[.int .u8 v] 5)) := (Up.refl wr).alloc _
        refine ⟨j + 1, A3, c3, by first | rfl | go_num, rfl, by omega, ?_, hle5, hmx5, ?_, (HUP.out.trans hup5).past HB5.out⟩
        · rw [take_snoc HX.out, List.map_append, bs_append_]
          have e9 : bs ([((some ⟨g, off, none⟩, cx, d) : Inn)].map fun x => hd x.2.2) = [.int .u8 v] := by
            show [Value.int .u8 (d.getD 0 0)] = _
            rw [HV.out]
          rw [e9]
          exact HO5.out
        · intro y hy
          rw [take_snoc HX.out] at hy
          rcases List.mem_append.1 hy with hy | hy
          · exact HBY.out y hy
          · rw [List.mem_singleton.1 hy]
            show 0 ≤ d.getD 0 0 ∧ d.getD 0 0 ≤ 255
            rw [HV.out]; exact HBD.out
      case measure => simp [intOf]; omega
    · obtain rfl : j = N := by omega
      have hxs : xs.take j = xs := List.take_of_length_le (by rw [HN.out]; exact Nat.le_refl _)
      have hbb := HBY.out
      rw [hxs] at hbb
      have hoo := HOW.out
      rw [hxs] at hoo
      have hfin : Sl w.heap.size wr A1 j c1 (R.1.map hd) := by
        have e : (xs.map fun x => hd x.2.2) = R.1.map hd := by rw [← HMP.out, List.map_map]; rfl
        rw [← e]
        refine (Sl.of_own hoo hle hmx hN6 ?_).low HU1.out.size
        intro y hy
        obtain ⟨x, hx, rfl⟩ := List.mem_map.1 hy
        exact hbb x hx
      have HFI := Lib.hid hfin
      clear hfin hoo hbb
      go_wp2_with fail
      go_ret2
      exact ⟨A1, c1, j, by rw [HGE.out]; rfl, HFI.out, HU1.out.trans HUP.out⟩
end Go.Proofs.Ytfknakcjhlonoaa
