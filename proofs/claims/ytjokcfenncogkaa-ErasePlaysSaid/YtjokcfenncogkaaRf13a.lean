/-
  The document's Starts, Start and Field. No condition.
-/
import Derived.Test.YtjokcfenncogkaaPl13b
import Derived.Test.YtjokcfenncogkaaFld1
namespace Go.Proofs.Ytjokcfenncogkaa
open Go.RowKit
set_option linter.unusedVariables false
set_option linter.unusedSimpArgs false

/-- a row of ints in a block of its own -/
def IntsAt (w : World) (g : Nat) (L : List Int) : Prop := FreeAt w g ∧ g < w.heap.size ∧ ∀ i x, L[i]? = some x → w.cell? ⟨g, i, none⟩ = some (.int .i64 x)
theorem IntsAt.up {w w' : World} {g : Nat} {L : List Int} (h : IntsAt w g L) (hu : Up w w') : IntsAt w' g L :=
  ⟨h.1.keep (hu.block g h.2.1), by have := hu.size; have := h.2.1; omega, fun i x hi => ((hu.at_ g h.2.1).1 i).trans (h.2.2 i x hi)⟩
theorem IntsAt.set {w : World} {g : Nat} {L : List Int} (h : IntsAt w g L) {k : Nat} (hk : k < L.length) (x : Int) : IntsAt (w.setCell ⟨g, k, none⟩ (.int .i64 x)) g (L.set k x) := by
  refine ⟨h.1.set _ _, by simp [World.setCell]; exact h.2.1, fun i y hi => ?_⟩
  rw [List.getElem?_set] at hi
  by_cases e : k = i
  · subst e
    rw [if_pos rfl, if_pos hk] at hi
    cases hi
    exact World.cell?_setCell_same (h := h.2.2 k _ (List.getElem?_eq_getElem hk)) ..
  · rw [if_neg e] at hi
    exact (World.cell?_setCell_other _ _ _ _ (by simp [e])).trans (h.2.2 i y hi)
theorem IntsAt.reads {w : World} {g : Nat} {L : List Int} (h : IntsAt w g L) : Reads w w.heap.size 1 (some ⟨g, 0, none⟩) L.length (ns L) := by
  refine ⟨by rw [ns_len]; omega, fun _ => ⟨g, 0, rfl, h.2.1, fun j u hu => ?_⟩⟩
  unfold ns at hu
  rw [List.getElem?_map] at hu
  cases hx : L[j]? with
  | none => rw [hx] at hu; cases hu
  | some x => rw [hx] at hu; cases hu; rw [Nat.zero_add]; exact h.2.2 j x hx
theorem run_ints (m : Nat) (hm : m ≤ 65536) : ∃ O : Obj, (∀ w : World, (Instr.makeSlice 50 (.int .i64 (m : Int)) (.int .i64 (m : Int))).run Try.prog w = .ok (.slice (some ⟨w.heap.size, 0, none⟩) m m) (w.alloc O)) ∧ ∀ w : World, IntsAt (w.alloc O) w.heap.size (List.replicate m 0) := by
  obtain ⟨i0, hi, hz0, hz1, hz2⟩ := info_parts info_i64
  refine ⟨.cells (madeCells (Value.int .i64 0).cells (m * i0.size)) 3, fun w => ?_, fun w => ?_⟩
  · have := run_make (P := Try.prog) w 50 3 i0 _ Try.underlying50 hi hz0 .i64 .i64 (m : Int) (m : Int) (by omega) (by omega) (by rw [hz2]; omega) (by omega)
    simpa using this
  · rw [hz1]
    refine ⟨fun o => by simp, by simp, fun i c hi => ?_⟩
    obtain ⟨hlt, he⟩ := List.getElem?_eq_some_iff.1 hi
    simp at hlt he
    subst he
    rw [World.cell?_alloc_new]
    have hb : i < m * 1 := by omega
    show (madeCells #[.int .i64 0] (m * 1))[i]? = _
    simp only [madeCells, Array.getElem?_map]
    rw [show (Array.range (m * 1))[i]? = some i from by rw [Array.getElem?_range, if_pos hb]]
    simp [Nat.mod_one]
set_option maxRecDepth 100000 in
set_option maxHeartbeats 3200000 in
theorem rstarts_is {q h : Nat} {X : Spc} {w : World} (hr : RAt w q h X) (ok : X.Ok) :
    Calls Try.prog 48 #[.pointer (some ⟨q, 0, none⟩)] w fun e w' => ∃ g, e = .returned (.slice (some ⟨g, 0, none⟩) X.L.length X.L.length) ∧ w.heap.size ≤ g ∧ IntsAt w' g X.starts ∧ Up w w' := by
  have HR := Lib.hid hr
  have HO := Lib.hid ok
  have RA := Lib.hid (rattrs_is hr ok)
  have HCE := Lib.hid (fun k c hk => hr.cells.2.2 k c hk)
  obtain ⟨cap, q1, q2, k4⟩ := hr.h4
  have zp := hr.lt
  have zg := hr.cells.2.1
  have hsm := ok.small
  have hbg := ok.big
  have hcp : (cap : Int) ≤ 9223372036854775807 := by simp [maxLen] at q2; omega
  have HSL := Lib.hid (starts_len X)
  have HSA := Lib.hid (fun k (hk : k < X.L.length) => starts_at (X := X) hk)
  have HSS := Lib.hid (fun k : Nat => fun (h : X.isA (k : Int) = true) => start_self ok h)
  have HSP := Lib.hid (fun k : Nat => fun (h : X.isA (k : Int) = false) => start_pred ok h)
  have HIA := Lib.hid (fun k (hk : k < X.L.length) => Spc.isA_nat ok hk)
  have HEM := Lib.hid (fun k (hk : k < X.L.length) => show (k : Int) % (X.r * X.c) = k from by have := ok.len; exact Int.emod_eq_of_lt (by omega) (by omega))
  have HLST := Lib.hid (fun l x (h : X.attrs = l ++ [x]) => start_last ok h)
  have HEMP := Lib.hid (fun (h : X.attrs = []) => start_empty ok h (-1))
  obtain ⟨m, hm⟩ : ∃ m, X.L.length = m := ⟨_, rfl⟩
  obtain ⟨La, hLa⟩ : ∃ La, X.attrs = La := ⟨_, rfl⟩
  have hla : La.length ≤ m := by rw [← hLa, ← hm]; exact those_len _ _
  have HM := Lib.hid hm
  rw [hLa] at RA HLST HEMP
  rw [hm] at q1 k4 hsm hbg HSL HSA HIA HEM ⊢
  obtain ⟨O, hrun, hints⟩ := run_ints m (by omega)
  have HIN := Lib.hid hints
  clear hm hr ok q2 hLa hints
  go_enter Try.func48, Try.ntmps48
  go_wp2_with fail
  refine RA.out.mono ?_
  rintro e w1 ⟨A, c, rfl, hown, hu1⟩
  have k4' := ((hu1.at_ q zp).1 4).trans k4
  have z1 := hu1.size
  have zp1 : q < w1.heap.size := by omega
  have HOW := Lib.hid hown
  have HU1 := Lib.hid hu1
  have hle := hown.le
  have hmx : (c : Int) ≤ 9223372036854775807 := by have := hown.mx; simp [maxLen] at this; omega
  obtain ⟨nl, hnl⟩ : ∃ nl, La.length = nl := ⟨_, rfl⟩
  have HNL := Lib.hid hnl
  have HRD := Lib.hid hown.reads
  rw [hnl] at hla hle HRD ⊢
  clear hown hu1 hnl
  have HLO := Lib.hid (HIN.out w1)
  rcases Nat.eq_zero_or_pos nl with h0 | h0
  · have hS0 : X.start (-1) = -1 := HEMP.out (List.eq_nil_of_length_eq_zero (by have := HNL.out; omega))
    subst h0
    have HS0 := Lib.hid hS0
    clear hS0
    go_wp2_with fail
    go_loopw [5, 30] (fun v i wr => ∃ (j : Nat) (Lj : List Int), j ≤ m ∧ v = .int .i64 (X.start ((j : Int) - 1)) ∧ i = .int .i64 (j : Int) ∧ Lj.length = m ∧ (∀ k, k < j → Lj[k]? = X.starts[k]?) ∧ IntsAt wr w1.heap.size Lj ∧ Up w1 wr) (fun _ i _ => m - (intOf i).toNat)
    case atStart => exact ⟨0, List.replicate m 0, by omega, by rw [show ((0 : Nat) : Int) - 1 = -1 by omega, HS0.out], rfl, by simp, by omega, HLO.out, (Up.refl w1).alloc _⟩
    case round =>
      obtain ⟨j, Lj, hj, rfl, rfl, hlj, hlk, hints, huj⟩ := hrel
      have HUJ := Lib.hid huj
      have HIJ := Lib.hid hints
      have HLJ := Lib.hid hlj
      have HLK := Lib.hid hlk
      have zj := huj.size
      have zg2 : h < w1.heap.size := by omega
      have zgj : h < wr.heap.size := by omega
      have zG : w1.heap.size < wr.heap.size := hints.2.1
      by_cases hlt : j < m
      · obtain ⟨d, hd⟩ : ∃ d, X.L[j]? = some d := ⟨_, List.getElem?_eq_getElem (by have := HM.out; omega)⟩
        obtain ⟨x0, x1, x2, x3, x4, x5⟩ := ((HCE.out j d hd).keep (HU1.out.at_ h zg).1).keep (huj.at_ h zg2).1
        have hia := isAt_of hd
        have HIAJ := Lib.hid (HIA.out j hlt)
        rw [hia] at HIAJ
        obtain ⟨y, hy⟩ : ∃ y, Lj[j]? = some y := ⟨_, List.getElem?_eq_getElem (by omega)⟩
        have g1 := hints.2.2 j y hy
        have g2 := hints.1 j
        have HEJ := Lib.hid (HEM.out j hlt)
        have HSJ := Lib.hid (HSA.out j hlt)
        have HS1 := Lib.hid (fun h => HSS.out j h)
        have HS2 := Lib.hid (fun h => HSP.out j h)
        clear hd huj hints hlj hlk hia hy
        obtain ⟨dch, da, dfa, dhi, dco, dse⟩ := d
        simp only at x0 x1 x2 x3 x4 x5 HIAJ
        have hjm : (j : Int) < (m : Int) := by omega
        obtain ⟨sp, hsp⟩ : ∃ sp, X.start ((j : Int) - 1) = sp := ⟨_, rfl⟩
        rw [hsp] at HS2 ⊢
        clear hsp
        cases da
        · have HV := Lib.hid (show X.start (j : Int) = sp from HS2.out HIAJ.out)
          go_wp2_with fail
          go_roundw
          case rel => exact ⟨j + 1, Lj.set j sp, by omega, by rw [show ((j + 1 : Nat) : Int) - 1 = j by omega, HV.out], by go_num, by rw [List.length_set]; exact HLJ.out, fun k hk => by
            rcases Nat.lt_or_ge k j with h | h
            · rw [List.getElem?_set_ne (by omega)]; exact HLK.out k h
            · obtain rfl : k = j := by omega
              rw [List.getElem?_set_self (by have := HLJ.out; omega), HSJ.out, HV.out], (HIJ.out.set (by have := HLJ.out; omega) _).up ((Up.refl _).alloc _), (HUJ.out.setCell (Nat.le_refl _) _).alloc _⟩
          case measure => simp [intOf]; omega
        · have HV := Lib.hid (show X.start (j : Int) = j by rw [HS1.out HIAJ.out]; exact HEJ.out)
          go_wp2_with fail
          go_roundw
          case rel => exact ⟨j + 1, Lj.set j (j : Int), by omega, by rw [show ((j + 1 : Nat) : Int) - 1 = j by omega, HV.out], by go_num, by rw [List.length_set]; exact HLJ.out, fun k hk => by
            rcases Nat.lt_or_ge k j with h | h
            · rw [List.getElem?_set_ne (by omega)]; exact HLK.out k h
            · obtain rfl : k = j := by omega
              rw [List.getElem?_set_self (by have := HLJ.out; omega), HSJ.out, HV.out], (HIJ.out.set (by have := HLJ.out; omega) _).up ((Up.refl _).alloc _), (HUJ.out.setCell (Nat.le_refl _) _).alloc _⟩
          case measure => simp [intOf]; omega
      · obtain rfl : j = m := by omega
        go_wp2_with fail
        go_ret
        have hL : Lj = X.starts := by
          refine List.ext_getElem? fun k => ?_
          rcases Nat.lt_or_ge k j with h | h
          · exact HLK.out k h
          · rw [List.getElem?_eq_none (by omega), List.getElem?_eq_none (by have := HSL.out; omega)]
        exact ⟨w1.heap.size, rfl, HU1.out.size, hL ▸ HIJ.out, HU1.out.trans HUJ.out⟩
  · obtain ⟨l0, x, hl0⟩ : ∃ l0 x, La = l0 ++ [x] := ⟨La.dropLast, La.getLast (fun e => by rw [e] at HNL; have := HNL.out; simp at this; omega), (List.dropLast_concat_getLast _).symm⟩
    have HS0 := Lib.hid (HLST.out l0 x hl0)
    obtain ⟨b, off, rfl, hb⟩ := HRD.out.form (by omega)
    obtain ⟨_, hcell⟩ := (HRD.out).at_ (j := nl - 1) (by omega)
    obtain ⟨u, hu, hcl⟩ := hcell
    have hux : u = .int .i64 x := by
      have e : (ns La)[nl - 1]? = some (.int .i64 x) := by
        rw [hl0]
        unfold ns
        rw [List.map_append, List.getElem?_append_right (by simp; have := HNL.out; rw [hl0] at this; simp at this; omega)]
        have := HNL.out
        rw [hl0] at this
        simp at this
        simp [show nl - 1 - l0.length = 0 by omega]
      rw [e] at hu
      injection hu with hu
      exact hu.symm
    subst hux
    have hn0 : (0 : Int) < (nl : Int) := by omega
    obtain ⟨n1, hn1⟩ : ∃ n1, nl - 1 = n1 := ⟨_, rfl⟩
    have e1 : (nl : Int) - 1 = (n1 : Int) := by omega
    have e2 : (n1 : Int) < (nl : Int) := by omega
    have e3 : ((nl : Int) - 1).toNat = n1 := by omega
    rw [hn1] at hcl
    clear hu hn1 hl0
    go_wp2_with fail
    go_loopw [5, 30] (fun v i wr => ∃ (j : Nat) (Lj : List Int), j ≤ m ∧ v = .int .i64 (X.start ((j : Int) - 1)) ∧ i = .int .i64 (j : Int) ∧ Lj.length = m ∧ (∀ k, k < j → Lj[k]? = X.starts[k]?) ∧ IntsAt wr w1.heap.size Lj ∧ Up w1 wr) (fun _ i _ => m - (intOf i).toNat)
    case atStart => exact ⟨0, List.replicate m 0, by omega, by rw [show ((0 : Nat) : Int) - 1 = -1 by omega, HS0.out], rfl, by simp, by omega, HLO.out, (Up.refl w1).alloc _⟩
    case round =>
      obtain ⟨j, Lj, hj, rfl, rfl, hlj, hlk, hints, huj⟩ := hrel
      have HUJ := Lib.hid huj
      have HIJ := Lib.hid hints
      have HLJ := Lib.hid hlj
      have HLK := Lib.hid hlk
      have zj := huj.size
      have zg2 : h < w1.heap.size := by omega
      have zgj : h < wr.heap.size := by omega
      have zG : w1.heap.size < wr.heap.size := hints.2.1
      by_cases hlt : j < m
      · obtain ⟨d, hd⟩ : ∃ d, X.L[j]? = some d := ⟨_, List.getElem?_eq_getElem (by have := HM.out; omega)⟩
        obtain ⟨x0, x1, x2, x3, x4, x5⟩ := ((HCE.out j d hd).keep (HU1.out.at_ h zg).1).keep (huj.at_ h zg2).1
        have hia := isAt_of hd
        have HIAJ := Lib.hid (HIA.out j hlt)
        rw [hia] at HIAJ
        obtain ⟨y, hy⟩ : ∃ y, Lj[j]? = some y := ⟨_, List.getElem?_eq_getElem (by omega)⟩
        have g1 := hints.2.2 j y hy
        have g2 := hints.1 j
        have HEJ := Lib.hid (HEM.out j hlt)
        have HSJ := Lib.hid (HSA.out j hlt)
        have HS1 := Lib.hid (fun h => HSS.out j h)
        have HS2 := Lib.hid (fun h => HSP.out j h)
        clear hd huj hints hlj hlk hia hy
        obtain ⟨dch, da, dfa, dhi, dco, dse⟩ := d
        simp only at x0 x1 x2 x3 x4 x5 HIAJ
        have hjm : (j : Int) < (m : Int) := by omega
        obtain ⟨sp, hsp⟩ : ∃ sp, X.start ((j : Int) - 1) = sp := ⟨_, rfl⟩
        rw [hsp] at HS2 ⊢
        clear hsp
        cases da
        · have HV := Lib.hid (show X.start (j : Int) = sp from HS2.out HIAJ.out)
          go_wp2_with fail
          go_roundw
          case rel => exact ⟨j + 1, Lj.set j sp, by omega, by rw [show ((j + 1 : Nat) : Int) - 1 = j by omega, HV.out], by go_num, by rw [List.length_set]; exact HLJ.out, fun k hk => by
            rcases Nat.lt_or_ge k j with h | h
            · rw [List.getElem?_set_ne (by omega)]; exact HLK.out k h
            · obtain rfl : k = j := by omega
              rw [List.getElem?_set_self (by have := HLJ.out; omega), HSJ.out, HV.out], (HIJ.out.set (by have := HLJ.out; omega) _).up ((Up.refl _).alloc _), (HUJ.out.setCell (Nat.le_refl _) _).alloc _⟩
          case measure => simp [intOf]; omega
        · have HV := Lib.hid (show X.start (j : Int) = j by rw [HS1.out HIAJ.out]; exact HEJ.out)
          go_wp2_with fail
          go_roundw
          case rel => exact ⟨j + 1, Lj.set j (j : Int), by omega, by rw [show ((j + 1 : Nat) : Int) - 1 = j by omega, HV.out], by go_num, by rw [List.length_set]; exact HLJ.out, fun k hk => by
            rcases Nat.lt_or_ge k j with h | h
            · rw [List.getElem?_set_ne (by omega)]; exact HLK.out k h
            · obtain rfl : k = j := by omega
              rw [List.getElem?_set_self (by have := HLJ.out; omega), HSJ.out, HV.out], (HIJ.out.set (by have := HLJ.out; omega) _).up ((Up.refl _).alloc _), (HUJ.out.setCell (Nat.le_refl _) _).alloc _⟩
          case measure => simp [intOf]; omega
      · obtain rfl : j = m := by omega
        go_wp2_with fail
        go_ret
        have hL : Lj = X.starts := by
          refine List.ext_getElem? fun k => ?_
          rcases Nat.lt_or_ge k j with h | h
          · exact HLK.out k h
          · rw [List.getElem?_eq_none (by omega), List.getElem?_eq_none (by have := HSL.out; omega)]
        exact ⟨w1.heap.size, rfl, HU1.out.size, hL ▸ HIJ.out, HU1.out.trans HUJ.out⟩
end Go.Proofs.Ytjokcfenncogkaa
