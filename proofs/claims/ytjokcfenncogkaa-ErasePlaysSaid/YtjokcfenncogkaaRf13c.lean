/-
  The document's Firsts and Next. No condition.
-/
import Derived.Test.YtjokcfenncogkaaRf13b
namespace Go.Proofs.Ytjokcfenncogkaa
open Go.RowKit
set_option linter.unusedVariables false
set_option linter.unusedSimpArgs false

theorem fldR0 (a : Bool) (v1 v2 v3 : Value) (w : World) : (Instr.field 69 (.agg #[.bool a, v1, v2, v3]) 0).run Try.prog w = .ok (.bool a) w := by kernel_rfl
theorem fldR3 (a : Bool) (v0 v1 v2 : Value) (w : World) : (Instr.field 69 (.agg #[v0, v1, v2, .bool a]) 3).run Try.prog w = .ok (.bool a) w := by kernel_rfl
theorem places_len13 {X : Spc} (ok : X.Ok) (a : Int) : (X.places a).length < X.L.length := by
  have := ok.big
  unfold Spc.places
  by_cases h : X.isA a = true
  · rw [if_pos h, stepsL_len]
    exact (cnt_is ok h).1
  · rw [if_neg h]; simp; omega
theorem firstOf_len (X : Spc) (a : Int) : (X.firstOf a).length ≤ 1 := by unfold Spc.firstOf; split <;> simp
def firstsTo (X : Spc) (j : Nat) : List Int := (X.attrs.take j).flatMap X.firstOf
theorem firstsTo_zero (X : Spc) : firstsTo X 0 = [] := rfl
theorem firstsTo_succ {X : Spc} {j : Nat} {a : Int} (h : X.attrs[j]? = some a) : firstsTo X (j + 1) = firstsTo X j ++ X.firstOf a := by
  obtain ⟨hlt, he⟩ := List.getElem?_eq_some_iff.1 h
  unfold firstsTo
  rw [List.take_succ_eq_append_getElem hlt, List.flatMap_append, he]
  simp
theorem firstsTo_all {X : Spc} {j : Nat} (h : X.attrs.length = j) : firstsTo X j = X.firsts := by
  unfold firstsTo Spc.firsts
  rw [List.take_of_length_le (by omega)]
theorem firstsTo_len (X : Spc) (j : Nat) : (firstsTo X j).length ≤ j := by
  unfold firstsTo
  have : ∀ l : List Int, (l.flatMap X.firstOf).length ≤ l.length := by
    intro l
    induction l with
    | nil => simp
    | cons a l ih => rw [List.flatMap_cons, List.length_append, List.length_cons]; have := firstOf_len X a; omega
  have h2 := this (X.attrs.take j)
  rw [List.length_take] at h2
  omega
theorem places_head {X : Spc} {a : Int} (h : 0 < (X.places a).length) : (X.places a)[0]? = some ((a + 1) % (X.r * X.c)) := by
  unfold Spc.places at h ⊢
  by_cases hA : X.isA a = true
  · rw [if_pos hA] at h ⊢
    rw [stepsL_len] at h
    simp [stepsL, h]
  · rw [if_neg hA] at h; simp at h
set_option maxRecDepth 100000 in
set_option maxHeartbeats 6400000 in
theorem rfirsts_is {q h : Nat} {X : Spc} {w : World} (hr : RAt w q h X) (ok : X.Ok) :
    Calls Try.prog 120 #[.pointer (some ⟨q, 0, none⟩)] w fun e w' => ∃ A c, e = .returned (.slice A X.firsts.length c) ∧ OwnI w.heap.size w' A X.firsts.length c X.firsts ∧ Up w w' := by
  obtain ⟨i0, hi, hz0, hz1, hz2⟩ := info_parts info_i64
  have fR := fldR0
  have HR := Lib.hid hr
  have RA := Lib.hid (rattrs_is hr ok)
  have HP := Lib.hid (fun W (h' : RAt W q h X) (a : Int) => rplaces_is a h' ok)
  have HF := Lib.hid (fun W (h' : RAt W q h X) k (hk : k < X.L.length) f hf => rfield_is h' ok hk (f := f) hf)
  have hl := those_len (isAt X.L) X.L.length
  have hsm := ok.small
  have HPN := Lib.hid (fun a => (places_len13 ok a))
  have HPH := Lib.hid (fun a (ha : 0 < (X.places a).length) => places_head ha)
  have HMEM := Lib.hid (fun (j : Nat) (a : Int) (ha : X.attrs[j]? = some a) => show ∃ k : Nat, a = k ∧ k < X.L.length from by
    obtain ⟨k, h1, h2, h3⟩ := mem_those.1 (show a ∈ those (isAt X.L) X.L.length from List.mem_of_getElem? ha)
    exact ⟨k, h1, h2⟩)
  have HS := Lib.hid (fun (j : Nat) (a : Int) (ha : X.attrs[j]? = some a) => firstsTo_succ ha)
  have HL := Lib.hid (firstsTo_len X)
  have HFO := Lib.hid (fun a => show X.firstOf a = if 0 < (X.places a).length ∧ fP (X.at_ a).fa = false then [(a + 1) % (X.r * X.c)] else [] from rfl)
  have hla : X.attrs.length ≤ X.L.length := hl
  have HALL := Lib.hid (fun j (hj : X.attrs.length = j) => firstsTo_all hj)
  obtain ⟨La, hLa⟩ : ∃ La, X.attrs = La := ⟨_, rfl⟩
  rw [hLa] at RA HMEM HS hla HALL
  obtain ⟨nl, hnl⟩ : ∃ nl, La.length = nl := ⟨_, rfl⟩
  have HNL := Lib.hid hnl
  rw [hnl] at hla
  clear hl hr ok hLa hnl
  go_enter Try.func120, Try.ntmps120
  go_wp2_with fail
  refine RA.out.mono ?_
  rintro e w1 ⟨A0, c0, rfl, hown0, hu1⟩
  have z1 := hu1.size
  have HU1 := Lib.hid hu1
  have HRD := Lib.hid hown0.reads
  have hc0 : (c0 : Int) ≤ 9223372036854775807 := by have := hown0.mx; simp [maxLen] at this; omega
  have hle0 := hown0.le
  rw [HNL.out] at HRD hle0 ⊢
  clear hown0 hu1
  go_wp2_with fail
  go_loopw [3, 10] (fun v i wr => ∃ (j : Nat) (A : Option Addr) (n c : Nat), j ≤ nl ∧ v = .slice A n c ∧ i = .int .i64 (j : Int) ∧ OwnI w1.heap.size wr A n c (firstsTo X j) ∧ Up w1 wr) (fun _ i _ => nl - (intOf i).toNat)
  case atStart => exact ⟨0, none, 0, 0, by omega, rfl, rfl, OwnI.nil _ _, Up.refl _⟩
  case round =>
    obtain ⟨j, A, n, c, hj, rfl, rfl, hown, huj⟩ := hrel
    have HUJ := Lib.hid huj
    have HOW := Lib.hid hown
    have hn := hown.len
    have hn2 := HL.out j
    have zj := huj.size
    by_cases hlt : j < nl
    · obtain ⟨a, ha⟩ : ∃ a, La[j]? = some a := ⟨_, List.getElem?_eq_getElem (by have := HNL.out; omega)⟩
      obtain ⟨k, rfl, hk⟩ := HMEM.out j a ha
      have HKL := Lib.hid hk
      have hrd := HRD.out.below huj
      obtain ⟨b, off, rfl, hb⟩ := hrd.form (by omega)
      obtain ⟨hbl, u, hu, hcl⟩ := hrd.at_ (j := j) (by omega)
      have hux : u = .int .i64 (k : Int) := by
        unfold ns at hu
        rw [List.getElem?_map, ha] at hu
        injection hu with hu
        exact hu.symm
      subst hux
      have zb : b < wr.heap.size := by omega
      have HSJ := Lib.hid (HS.out j _ ha)
      have hjm : (j : Int) < (nl : Int) := by omega
      have hn5 : n ≤ 65535 := by omega
      have HPJ := Lib.hid (HP.out wr (HR.out.up (HU1.out.trans huj)) (k : Int))
      have HPNJ := Lib.hid (HPN.out (k : Int))
      have HPHJ := Lib.hid (HPH.out (k : Int))
      have HFOJ := Lib.hid (HFO.out (k : Int))
      obtain ⟨P, hP⟩ : ∃ P, X.places (k : Int) = P := ⟨_, rfl⟩
      rw [hP] at HPJ HPNJ HPHJ HFOJ
      obtain ⟨f, hf⟩ : ∃ f, (X.at_ (k : Int)).fa = f := ⟨_, rfl⟩
      have HFJ := Lib.hid (fun W (h' : RAt W q h X) => HF.out W h' k hk f hf)
      rw [hf] at HFOJ
      obtain ⟨np, hnp⟩ : ∃ np, P.length = np := ⟨_, rfl⟩
      have HNP := Lib.hid hnp
      rw [hnp] at HPJ HPNJ HPHJ HFOJ
      obtain ⟨hd0, hhd⟩ : ∃ hd0, ((k : Int) + 1) % (X.r * X.c) = hd0 := ⟨_, rfl⟩
      rw [hhd] at HPHJ HFOJ
      clear hP hf hk hnp hhd ha hu hrd huj hown hn hn2
      go_wp2_with fail
      refine HPJ.out.mono ?_
      rintro e w2 ⟨A1, c1, rfl, hownP, hu2⟩
      have HU2 := Lib.hid hu2
      have z2 := hu2.size
      have HOP := Lib.hid hownP
      have hcP : (c1 : Int) ≤ 9223372036854775807 := by have := hownP.mx; simp [maxLen] at this; omega
      clear hu2 hownP
      rcases Nat.eq_zero_or_pos np with h0 | h0
      · have HFE := Lib.hid (show X.firstOf (k : Int) = [] by rw [HFOJ.out, if_neg (by omega)])
        subst h0
        go_wp2_with fail
        go_roundw
        case rel => exact ⟨j + 1, A, n, c, by omega, rfl, by go_num, by rw [HSJ.out, HFE.out, List.append_nil]; exact HOW.out.up HU2.out, HUJ.out.trans HU2.out⟩
        case measure => simp [intOf]; omega
      · have hnp0 : (0 : Int) < (np : Int) := by omega
        obtain ⟨b1, off1, rfl, hb1⟩ := HOP.out.reads.form (by omega)
        obtain ⟨_, u1, hu1, hcl1⟩ := HOP.out.reads.at_ (j := 0) (by omega)
        have hux1 : u1 = .int .i64 hd0 := by
          unfold ns at hu1
          rw [List.getElem?_map, HPHJ.out h0] at hu1
          injection hu1 with hu1
          exact hu1.symm
        subst hux1
        clear hu1
        obtain ⟨pf, hpf⟩ : ∃ pf, fP f = pf := ⟨_, rfl⟩
        have HFJ2 := Lib.hid (HFJ.out w2 (HR.out.up (HU1.out.trans (HUJ.out.trans HU2.out))))
        rw [hpf] at HFJ2 HFOJ
        clear hpf
        cases pf
        · have HFE := Lib.hid (show X.firstOf (k : Int) = [hd0] by rw [HFOJ.out, if_pos ⟨h0, rfl⟩])
          go_wp2_with fail
          refine HFJ2.out.mono ?_
          rintro e w3 ⟨rfl, hu3⟩
          have hcl2 := ((hu3.at_ b1 hb1).1 _).trans hcl1
          have zb1 : b1 < w3.heap.size := by have := hu3.size; omega
          have HU3 := Lib.hid (HU2.out.trans hu3)
          have z3 := hu3.size
          clear hu3
          rw [Nat.add_zero] at hcl2
          go_wp2_with (at_builtin; refine wpList_push i0 hi hz0 hz1 hz2 Try.underlying50 rfl (.tmp 27) (.tmp 31) rfl _ hd0 rfl _ (by simp) w1.heap.size A n c (firstsTo X j) rfl rfl (HOW.out.up (HU3.out.trans (by (repeat (first | with_reducible exact Up.refl _ | with_reducible refine Up.alloc ?_ _ | with_reducible refine Up.drew ?_ | with_reducible refine Up.drewN ?_ _ | with_reducible refine Up.setCell ?_ (by (try simp) <;> omega) _ | with_reducible assumption | with_reducible refine Up.trans ?_ (by assumption)))))) hn5 (by (try simp) <;> omega) ?_; intro A2 c2 w5 hown2 hg2 hbl2 _; have HO2 := Lib.hid hown2; have HB2 := Lib.hid hbl2; clear hown2 hg2 hbl2)
          go_roundw
          case rel => exact ⟨j + 1, A2, n + 1, c2, by omega, rfl, by go_num, by rw [HSJ.out, HFE.out]; exact HO2.out, Up.past (HUJ.out.trans HU3.out) HB2.out⟩
          case measure => simp [intOf]; omega
        · have HFE := Lib.hid (show X.firstOf (k : Int) = [] by rw [HFOJ.out, if_neg (by simp)])
          go_wp2_with fail
          refine HFJ2.out.mono ?_
          rintro e w3 ⟨rfl, hu3⟩
          have HU3 := Lib.hid (HU2.out.trans hu3)
          clear hu3
          go_wp2_with fail
          go_roundw
          case rel => exact ⟨j + 1, A, n, c, by omega, rfl, by go_num, by rw [HSJ.out, HFE.out, List.append_nil]; exact HOW.out.up HU3.out, HUJ.out.trans HU3.out⟩
          case measure => simp [intOf]; omega
    · obtain rfl : j = nl := by omega
      have HA := Lib.hid (HALL.out j HNL.out)
      rw [HA.out] at HOW
      clear hn hn2 hown
      go_wp2_with fail
      go_ret
      have hn := HOW.out.len
      subst hn
      exact ⟨A, c, rfl, HOW.out.low (by omega), HU1.out.trans HUJ.out⟩
end Go.Proofs.Ytjokcfenncogkaa
