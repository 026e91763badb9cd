/-
  slices.Equal over ints (EqI's, with a shorter chain of imports). No condition.
-/
import Derived.Test.YtjokcfenncogkaaItAttrs
import Derived.Test.YtjokcfenncogkaaCollN
namespace Go.Proofs.Ytjokcfenncogkaa
open Go.RowKit Go.Shelf
set_option linter.unusedVariables false
set_option linter.unusedSimpArgs false

theorem ns_at13 (l : List Int) (i : Nat) (h : i < l.length) : (ns l)[i]? = some (.int .i64 (l.getD i 0)) := by simp [ns, List.getElem?_map, List.getElem?_eq_getElem h, List.getD]
theorem reads_ns13 {w : World} {B n : Nat} {b off : Nat} {l : List Int} (h : Reads w B 1 (some ⟨b, off, none⟩) n (ns l)) (i : Nat) (hi : i < n) : w.cell? ⟨b, off + i, none⟩ = some (.int .i64 (l.getD i 0)) ∧ b < B := by
  have hl : l.length = n := by have := h.1; rw [ns_len] at this; omega
  obtain ⟨b', off', e, hb, hc⟩ := h.2 (by omega)
  injection e with e
  injection e with e1 e2 _
  subst e1; subst e2
  exact ⟨hc _ _ (ns_at13 l i (by omega)), hb⟩
theorem int_ext13 {L L' : List Int} (hl : L.length = L'.length) (h : ∀ t, t < L.length → L.getD t 0 = L'.getD t 0) : L = L' := by
  refine List.ext_getElem hl fun t h1 h2 => ?_
  have := h t h1
  simpa [List.getD, List.getElem?_eq_getElem h1, List.getElem?_eq_getElem h2] using this
set_option maxHeartbeats 800000 in
theorem equal_i13 (A A' : Option Addr) (n n' c c' : Nat) (L L' : List Int) (w : World) (hr : Reads w w.heap.size 1 A n (ns L)) (hr' : Reads w w.heap.size 1 A' n' (ns L')) (hn : n ≤ 65536) (hn' : n' ≤ 65536) :
    Calls Try.prog 58 #[.slice A n c, .slice A' n' c'] w fun e w' => e = .returned (.bool (decide (L = L'))) ∧ Up w w' := by
  have hl : L.length = n := by have := hr.1; rw [ns_len] at this; omega
  have hl' : L'.length = n' := by have := hr'.1; rw [ns_len] at this; omega
  by_cases hne : n = n'
  · subst hne
    go_enter Try.func58, Try.ntmps58
    go_wp2
    go_loopw [13] (fun i wr => ∃ j : Nat, j ≤ n ∧ i = .int .i64 (j : Int) ∧ Up w wr ∧ ∀ t, t < j → L.getD t 0 = L'.getD t 0) (fun i _ => n - (intOf i).toNat)
    case atStart => exact ⟨0, by omega, rfl, Up.refl _, by omega⟩
    case round =>
      obtain ⟨j, hj, rfl, hup, heq⟩ := hrel
      by_cases hlt : j < n
      · obtain ⟨b, off, rfl, hb⟩ := hr.form (by omega)
        obtain ⟨b', off', rfl, hb'⟩ := hr'.form (by omega)
        obtain ⟨ca, _⟩ := reads_ns13 (hr.below hup) j hlt
        obtain ⟨ca', _⟩ := reads_ns13 (hr'.below hup) j hlt
        have q1 : (j : Int) < (n : Int) := by omega
        have HE := Lib.hid heq
        clear heq
        generalize hx : L.getD j 0 = p at *
        generalize hy : L'.getD j 0 = p' at *
        have HX := Lib.hid hx
        have HY := Lib.hid hy
        clear hx hy
        by_cases d1 : p = p'
        · subst d1
          go_wp2
          go_quiet (fail)
          go_wp2
          go_roundw
          case rel =>
            refine ⟨j + 1, by omega, by go_num, hup.drewN _, fun t ht => ?_⟩
            rcases Nat.lt_or_ge t j with h | h
            · exact HE.out t h
            · obtain rfl : t = j := by omega
              rw [HX.out, HY.out]
          case measure => simp [intOf]; omega
        · have b1 : (p != p') = true := by simpa using d1
          have HN := Lib.hid (show L ≠ L' from fun e => by have h1 := HX.out; have h2 := HY.out; rw [e] at h1; exact d1 (h1.symm.trans h2))
          clear d1
          go_wp2
          go_quiet (fail)
          go_wp2
          go_ret
          exact ⟨ret_bool (by simp [HN.out]), hup.drewN _⟩
      · obtain rfl : j = n := by omega
        have hall : L = L' := int_ext13 (by omega) (by intro t ht; exact heq t (by omega))
        have HE := Lib.hid hall
        clear hall heq
        go_wp2
        go_ret
        exact ⟨ret_bool (by simp [HE.out]), hup⟩
  · have hd : ((n : Int) == (n' : Int)) = false := by simp; omega
    have hd2 : ((n : Int) != (n' : Int)) = true := by simp; omega
    go_enter Try.func58, Try.ntmps58
    go_wp2
    go_ret
    refine ⟨ret_bool ?_, Up.refl _⟩
    have : L ≠ L' := fun e => hne (by rw [← hl, ← hl', e])
    simp [this]
theorem equal_own {A A' : Option Addr} {c c' B B' : Nat} {L : List Int} {w : World} (h : OwnI B w A L.length c L) (h' : OwnI B' w A' L.length c' L) (hn : L.length ≤ 65536) :
    Calls Try.prog 58 #[.slice A L.length c, .slice A' L.length c'] w fun e w' => e = .returned (.bool true) ∧ Up w w' := by
  refine (equal_i13 A A' L.length L.length c c' L L w h.reads h'.reads hn hn).mono ?_
  rintro e w' ⟨rfl, hu⟩
  exact ⟨by simp, hu⟩
end Go.Proofs.Ytjokcfenncogkaa
