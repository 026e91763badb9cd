/-
  slices.Equal over ints and over cells that read alike; what is told of a slice. No condition.
-/
import Derived.Test.YtjokcfenncogkaaCells12
import Derived.Test.YtjokcfenncogkaaSame12b
namespace Go.Proofs.Ytjokcfenncogkaa
open Go.RowKit Go.Shelf
set_option linter.unusedVariables false
set_option linter.unusedSimpArgs false

theorem ns_at (l : List Int) (i : Nat) (h : i < l.length) : (ns l)[i]? = some (.int .i64 (l.getD i 0)) := by simp [ns, List.getElem?_map, List.getElem?_eq_getElem h, List.getD]
theorem reads_ns {w : World} {B n : Nat} {b off : Nat} {l : List Int} (h : Reads w B 1 (some ⟨b, off, none⟩) n (ns l)) (i : Nat) (hi : i < n) : w.cell? ⟨b, off + i, none⟩ = some (.int .i64 (l.getD i 0)) ∧ b < B := by
  have hl : l.length = n := by have := h.1; rw [ns_len] at this; omega
  obtain ⟨b', off', e, hb, hc⟩ := h.2 (by omega)
  injection e with e
  injection e with e1 e2 _
  subst e1; subst e2
  exact ⟨hc _ _ (ns_at l i (by omega)), hb⟩
theorem int_ext {L L' : List Int} (hl : L.length = L'.length) (h : ∀ t, t < L.length → L.getD t 0 = L'.getD t 0) : L = L' := by
  refine List.ext_getElem hl fun t h1 h2 => ?_
  have := h t h1
  simpa [List.getD, List.getElem?_eq_getElem h1, List.getElem?_eq_getElem h2] using this
set_option maxHeartbeats 800000 in
theorem equal_i (A A' : Option Addr) (n n' c c' : Nat) (L L' : List Int) (w : World) (hr : Reads w w.heap.size 1 A n (ns L)) (hr' : Reads w w.heap.size 1 A' n' (ns L')) (hn : n ≤ 65536) (hn' : n' ≤ 65536) :
    Calls Try.prog 58 #[.slice A n c, .slice A' n' c'] w fun e w' => e = .returned (.bool (decide (L = L'))) ∧ Up w w' := by
  have hl : L.length = n := by have := hr.1; rw [ns_len] at this; omega
  have hl' : L'.length = n' := by have := hr'.1; rw [ns_len] at this; omega
  by_cases hne : n = n'
  · subst hne
    go_enter Try.func58, Try.ntmps58
    go_wp2
    go_loopw [13] (fun i wr => ∃ j : Nat, j ≤ n ∧ i = .int .i64 (j : Int) ∧ Up w wr ∧ ∀ t, t < j → L.getD t 0 = L'.getD t 0) (fun i _ => n - (intOf i).toNat)
    case atStart => exact ⟨0, by omega, rfl, Up.refl _, by omega⟩
    case round =>
      obtain ⟨j, hj, rfl, hup, heq⟩ := hrel
      by_cases hlt : j < n
      · obtain ⟨b, off, rfl, hb⟩ := hr.form (by omega)
        obtain ⟨b', off', rfl, hb'⟩ := hr'.form (by omega)
        obtain ⟨ca, _⟩ := reads_ns (hr.below hup) j hlt
        obtain ⟨ca', _⟩ := reads_ns (hr'.below hup) j hlt
        have q1 : (j : Int) < (n : Int) := by omega
        have HE := Lib.hid heq
        clear heq
        generalize hx : L.getD j 0 = p at *
        generalize hy : L'.getD j 0 = p' at *
        have HX := Lib.hid hx
        have HY := Lib.hid hy
        clear hx hy
        by_cases d1 : p = p'
        · subst d1
          go_wp2
          go_quiet (fail)
          go_wp2
          go_roundw
          case rel =>
            refine ⟨j + 1, by omega, by go_num, hup.drewN _, fun t ht => ?_⟩
            rcases Nat.lt_or_ge t j with h | h
            · exact HE.out t h
            · obtain rfl : t = j := by omega
              rw [HX.out, HY.out]
          case measure => simp [intOf]; omega
        · have b1 : (p != p') = true := by simpa using d1
          have HN := Lib.hid (show L ≠ L' from fun e => by have h1 := HX.out; have h2 := HY.out; rw [e] at h1; exact d1 (h1.symm.trans h2))
          clear d1
          go_wp2
          go_quiet (fail)
          go_wp2
          go_ret
          exact ⟨ret_bool (by simp [HN.out]), hup.drewN _⟩
      · obtain rfl : j = n := by omega
        have hall : L = L' := int_ext (by omega) (by intro t ht; exact heq t (by omega))
        have HE := Lib.hid hall
        clear hall heq
        go_wp2
        go_ret
        exact ⟨ret_bool (by simp [HE.out]), hup⟩
  · have hd : ((n : Int) == (n' : Int)) = false := by simp; omega
    have hd2 : ((n : Int) != (n' : Int)) = true := by simp; omega
    go_enter Try.func58, Try.ntmps58
    go_wp2
    go_ret
    refine ⟨ret_bool ?_, Up.refl _⟩
    have : L ≠ L' := fun e => hne (by rw [← hl, ← hl', e])
    simp [this]
/-- a slice of these numbers -/
def RMs (L : List Int) (v : Value) (W : World) : Prop := ∃ A n c, v = .slice A n c ∧ n = L.length ∧ True ∧ True ∧ Reads W W.heap.size 1 A n (ns L)
theorem rms_up (L : List Int) (v : Value) (W W' : World) (h : RMs L v W) (hu : Up W W') : RMs L v W' := by
  obtain ⟨A, n, c, rfl, hn, h1, h2, hr⟩ := h
  exact ⟨A, n, c, rfl, hn, h1, h2, hr.up hu⟩
theorem OwnI.told {B : Nat} {W : World} {A : Option Addr} {n c : Nat} {l : List Int} (h : OwnI B W A n c l) : RMs l (.slice A n c) W := ⟨A, n, c, rfl, h.len.symm, trivial, trivial, h.reads⟩
/-- a slice of these cells -/
def RCs (L : List Cl) (v : Value) (W : World) : Prop := ∃ A n c, v = .slice A n c ∧ n = L.length ∧ n ≤ c ∧ c ≤ maxLen ∧ ∃ g, A = some ⟨g, 0, none⟩ ∧ CellsAt W g L
theorem rcs_up (L : List Cl) (v : Value) (W W' : World) (h : RCs L v W) (hu : Up W W') : RCs L v W' := by
  obtain ⟨A, n, c, rfl, hn, h1, h2, g, h3, h4⟩ := h
  exact ⟨A, n, c, rfl, hn, h1, h2, g, h3, h4.up hu⟩
theorem OwnC.told {B : Nat} {W : World} {A : Option Addr} {n c : Nat} {l : List Cl} (h : OwnC B W A n c l) (h0 : 0 < l.length) : RCs l (.slice A n c) W := by
  obtain ⟨g, e1, e2, e3, e4, e5, e6⟩ := CellsAt.of_own h.own h0
  exact ⟨A, n, c, rfl, e4, e5, e6, g, e1, e3⟩
/-- an iterator of a space -/
def RFb (f p : Nat) (v : Value) (W : World) : Prop := ∃ b b2 b3 : Nat, v = .func (.func f) #[] #[.pointer (some ⟨b, 0, none⟩)] ∧ b2 = b3 ∧ b < W.heap.size ∧ W.cell? ⟨b, 0, none⟩ = some (.pointer (some ⟨p, 0, none⟩))
theorem rfb_up (f p : Nat) (v : Value) (W W' : World) (h : RFb f p v W) (hu : Up W W') : RFb f p v W' := by
  obtain ⟨b, b2, b3, rfl, h0, h1, h2⟩ := h
  exact ⟨b, b2, b3, rfl, h0, by have := hu.size; omega, ((hu.at_ b h1).1 0).trans h2⟩
theorem eq_ms {A A' : Option Addr} {n n' c c' : Nat} {L : List Int} {w : World} (hr : Reads w w.heap.size 1 A n (ns L)) (hr' : Reads w w.heap.size 1 A' n' (ns L)) (hn : L.length ≤ 65536) :
    Calls Try.prog 58 #[.slice A n c, .slice A' n' c'] w fun e w' => e = .returned (.bool true) ∧ Up w w' := by
  have h1 := hr.1
  have h2 := hr'.1
  rw [ns_len] at h1 h2
  refine (equal_i A A' n n' c c' L L w hr hr' (by omega) (by omega)).mono ?_
  rintro e w' ⟨rfl, hu⟩
  exact ⟨by simp, hu⟩
theorem eq_cs {g g' n n' c c' : Nat} {L : List Cl} {w : World} (h : CellsAt w g L) (h' : CellsAt w g' L) (hn : L.length ≤ 65536) (e : n = L.length) (e' : n' = L.length) (hc : n ≤ c) (hc' : n' ≤ c') (hm : c ≤ maxLen) (hm' : c' ≤ maxLen) :
    Calls Try.prog 71 #[.slice (some ⟨g, 0, none⟩) n c, .slice (some ⟨g', 0, none⟩) n' c'] w fun e w' => e = .returned (.bool true) ∧ Up w w' := by
  subst e; subst e'
  exact eqcells_is h h' hn hc hc' hm hm'
theorem attrs_fb (p : Nat) (w : World) : Calls Try.prog 123 #[.pointer (some ⟨p, 0, none⟩)] w fun e w' => ∃ v, e = .returned v ∧ RFb 157 p v w' ∧ Up w w' := by
  refine (attrs_val _ w).mono ?_
  rintro e w' ⟨b, rfl, h1, h2, h3, h4, h5⟩
  exact ⟨_, rfl, ⟨b, 0, 0, rfl, rfl, h2, h3⟩, h5⟩
/-- what Collect makes of Attrs -/
theorem collect_attrs {p g b : Nat} {X : Spc} {L : List Int} {w : World} (hs : SAt w p g X) (ok : X.Ok) (hL : X.attrs = L) (hb : w.cell? ⟨b, 0, none⟩ = some (.pointer (some ⟨p, 0, none⟩))) :
    Calls Try.prog 55 #[.func (.func 157) #[] #[.pointer (some ⟨b, 0, none⟩)]] w fun e w' => ∃ A c, e = .returned (.slice A L.length c) ∧ RMs L (.slice A L.length c) w' ∧ Up w w' := by
  subst hL
  have hsm := ok.small
  have hl := those_len (isAt X.L) X.L.length
  refine (collect_n X.attrs enters_attrs (by unfold Spc.attrs; omega) (attrs_it (p := p) (m := X.L.length) (b := b) (f := isAt X.L) (Q := fun Y => Y.L = X.L) (fun Y hY k _ => by rw [hY])) (fun k h => h.elim) (fun _ _ => trivial)
    (fun W hk => ⟨g, X, hs.held hk (fun h => h) (fun h => h), ok, rfl, rfl, ((hk.at_ b (cell_lt hb) (fun h => h)).1 0).trans hb⟩) (fun _ _ _ h => h) (fun _ h => h)).mono ?_
  rintro e w' ⟨A, c, rfl, h1, h2⟩
  exact ⟨A, c, rfl, h1.told, h2.upto (fun i hi => hi.elim)⟩
end Go.Proofs.Ytjokcfenncogkaa
