/-
  erase's Nulls, slices.Contains; what erasing to a field's end leaves. No condition.
-/
import Derived.Test.YtjokcfenncogkaaAwk
import Derived.Test.YtjokcfenncogkaaModif13
namespace Go.Proofs.Ytjokcfenncogkaa
open Go.RowKit
set_option linter.unusedVariables false
set_option linter.unusedSimpArgs false

/-- how many nulls -/
def nulC (l : List Int) : Nat := l.countP (· == 0)
theorem nulC_snoc (l : List Int) (x : Int) : nulC (l ++ [x]) = nulC l + (if x = 0 then 1 else 0) := by
  unfold nulC
  rw [List.countP_append]
  by_cases h : x = 0 <;> simp [h]
theorem nulC_le (l : List Int) : nulC l ≤ l.length := List.countP_le_length
theorem nulC_all {l : List Int} (h : ∀ x ∈ l, x = 0) : nulC l = l.length := by
  unfold nulC
  rw [List.countP_eq_length]
  intro x hx
  simpa using h x hx
theorem take_snoc14 {l : List Int} {j : Nat} {x : Int} (h : l[j]? = some x) : l.take (j + 1) = l.take j ++ [x] := by
  obtain ⟨h1, h2⟩ := List.getElem?_eq_some_iff.1 h
  rw [List.take_succ_eq_append_getElem h1, h2]
theorem text_len {X : Spc} (ok : X.Ok) (a : Int) : (X.text a).length ≤ 3564 := by
  have h1 := places_len ok a
  have h2 := ok.small
  unfold Spc.text
  rw [List.length_map]; omega
set_option maxRecDepth 100000 in
set_option maxHeartbeats 3200000 in
theorem cnulls_is {p g : Nat} {X : Spc} {w : World} (a : Int) (hs : SAt w p g X) (ok : X.Ok) :
    Calls Try.prog 100 #[.pointer (some ⟨p, 0, none⟩), .int .i64 a] w fun e w' => e = .returned (.int .i64 (nulC (X.text a) : Int)) ∧ Up w w' := by
  have HT := Lib.hid (ftext_is a hs ok)
  have HTL := text_len ok a
  obtain ⟨L, hL⟩ : ∃ L, X.text a = L := ⟨_, rfl⟩
  rw [hL] at HT HTL ⊢
  obtain ⟨len, hlen⟩ : ∃ len, L.length = len := ⟨_, rfl⟩
  have HLN := Lib.hid hlen
  have HNS := Lib.hid (fun (j : Nat) (x : Int) (h : L[j]? = some x) => show nulC (L.take (j + 1)) = nulC (L.take j) + (if x = 0 then 1 else 0) by rw [take_snoc14 h, nulC_snoc])
  have HNL := Lib.hid (fun j (hj : j ≤ len) => show nulC (L.take j) ≤ j from Nat.le_trans (nulC_le _) (by rw [List.length_take]; omega))
  have HNA := Lib.hid (show nulC (L.take len) = nulC L by rw [List.take_of_length_le (by omega)])
  rw [hlen] at HT HTL
  clear hs ok hL hlen
  go_enter Try.func100, Try.ntmps100
  go_wp2_with fail
  refine HT.out.mono ?_
  rintro e w1 ⟨A, c, rfl, hown, hu1⟩
  have HRD := Lib.hid hown.reads
  have HU1 := Lib.hid hu1
  have hle := hown.le
  have hc : (c : Int) ≤ 9223372036854775807 := by have := hown.mx; simp [maxLen] at this; omega
  clear hown hu1
  go_wp2_with fail
  go_loopw [5, 12] (fun v i wr => ∃ j : Nat, j ≤ len ∧ v = .int .i64 (nulC (L.take j) : Int) ∧ i = .int .i64 (j : Int) ∧ Up w1 wr) (fun _ i _ => len - (intOf i).toNat)
  case atStart => exact ⟨0, by omega, by simp [nulC], rfl, Up.refl _⟩
  case round =>
    obtain ⟨j, hj, rfl, rfl, huj⟩ := hrel
    have HUJ := Lib.hid huj
    have hnl := HNL.out j hj
    by_cases hlt : j < len
    · obtain ⟨x, hx⟩ : ∃ x, L[j]? = some x := ⟨_, List.getElem?_eq_getElem (by rw [HLN.out]; omega)⟩
      have hrd := HRD.out.up huj
      obtain ⟨b, off, rfl, hb⟩ := hrd.form (by omega)
      have hx0 : wr.cell? ⟨b, off + j, none⟩ = some (.int .u8 x) := by
        obtain ⟨_, u, hu, hcu⟩ := hrd.at_ (j := j) (by omega)
        unfold bs at hu
        rw [List.getElem?_map, hx] at hu
        rw [hcu]; exact hu.symm
      have hjn : (j : Int) < (len : Int) := by omega
      have HSJ := Lib.hid (HNS.out j x hx)
      generalize nulC (L.take j) = S at *
      clear hrd hx huj
      by_cases hz : x = 0
      · have HSK := Lib.hid (show nulC (L.take (j + 1)) = S + 1 by rw [HSJ.out, if_pos hz])
        subst hz
        go_wp2_with fail
        go_roundw
        case rel => exact ⟨j + 1, by omega, by rw [HSK.out]; go_num, by go_num, HUJ.out⟩
        case measure => simp [intOf]; omega
      · have HSK := Lib.hid (show nulC (L.take (j + 1)) = S by rw [HSJ.out, if_neg hz]; rfl)
        have e1 : (x == 0) = false := by simp [hz]
        clear hz
        go_wp2_with fail
        go_roundw
        case rel => exact ⟨j + 1, by omega, by rw [HSK.out], by go_num, HUJ.out⟩
        case measure => simp [intOf]; omega
    · obtain rfl : j = len := by omega
      rw [HNA.out]
      clear huj
      go_wp2_with fail
      go_ret
      exact ⟨rfl, HU1.out.trans HUJ.out⟩
theorem contains_is {A : Option Addr} {c B : Nat} {L : List Int} {x : Int} {w : World} (h : OwnI B w A L.length c L) (hn : L.length ≤ 65536) (hx : x ∈ L) :
    Calls Try.prog 102 #[.slice A L.length c, .int .i64 x] w fun e w' => e = .returned (.bool true) ∧ Up w w' := by
  have HI := Lib.hid (show Calls Try.prog 60 #[.slice A L.length c, .int .i64 x] w (fun e w' => e = .returned (.int .i64 (idxVal L x)) ∧ Up w w') from index_i A L.length c L x w h.reads rfl hn)
  rw [(idxVal_mem hx).1] at HI
  generalize L.idxOf x = i at *
  clear h hx
  go_enter Try.func102, Try.ntmps102
  go_wp2_with fail
  refine HI.out.mono ?_
  rintro e w1 ⟨rfl, hu1⟩
  go_wp2_with fail
  go_ret
  exact ⟨ret_bool (by simp), hu1⟩
/-- the field of a+1, where a is an attribute with places -/
theorem next_start {X : Spc} (ok : X.Ok) {a : Int} (h : X.isA a = true) (hp : 0 < (X.places a).length) : X.start (a + 1) = a % (X.r * X.c) ∧ X.isA (a + 1) = false := by
  have h1 := (places_nonempty ok h).1 hp
  refine ⟨?_, h1⟩
  have hc : 0 < X.cnt a := by unfold Spc.places at hp; rw [if_pos h, stepsL_len] at hp; exact hp
  have := start_step ok h hc
  simpa using this
theorem next_rest {X : Spc} (ok : X.Ok) {a : Int} (a0 : 0 ≤ a) (a1 : a < X.r * X.c) (h : X.isA a = true) (hp : 0 < (X.places a).length) : X.restL (a + 1) = X.places a := by
  obtain ⟨h1, h2⟩ := next_start ok h hp
  rw [Int.emod_eq_of_lt a0 a1] at h1
  unfold Spc.restL
  rw [h1, if_neg (by omega)]
  have h3 : (X.places a)[0]? = some ((a + 1) % (X.r * X.c)) := by
    unfold Spc.places at hp ⊢
    rw [if_pos h] at hp ⊢
    rw [stepsL_len] at hp
    unfold stepsL
    rw [List.getElem?_map, List.getElem?_range hp]
    simp
  have h4 : (X.places a).idxOf ((a + 1) % (X.r * X.c)) = 0 := by
    have := idxOf_at (good_places ok a).nd (i := 0) hp
    rw [List.getD, h3] at this
    exact this
  rw [h4]; rfl
theorem end_alk {X : Spc} (ok : X.Ok) (n : Int) : Alk X (X.endA n) := (chs_alk X _).trans (modify_alk (chs_ok ok (endG_b (ch0_b ok) _)) n)
theorem end_ok {X : Spc} (ok : X.Ok) (n : Int) : (X.endA n).Ok := (chs_ok ok (endG_b (ch0_b ok) _)).modify n
/-- of an unprotected field all places are null then -/
theorem end_text {X : Spc} (ok : X.Ok) {a : Int} (a0 : 0 ≤ a) (a1 : a < X.r * X.c) (h : X.isA a = true) (hp : 0 < (X.places a).length) : ∀ x ∈ (X.endA (a + 1)).text a, x = 0 := by
  intro x hx
  unfold Spc.text at hx
  rw [(end_alk ok (a + 1)).places, List.mem_map] at hx
  obtain ⟨k, hk, rfl⟩ := hx
  have hg := good_places ok a
  have hb := hg.bd k hk
  have hw := wrap_at hb.1 hb.2
  have hna := hg.na k hk
  unfold Spc.endA
  rw [modify_na (chs_ok ok (endG_b (ch0_b ok) _)) (by rw [chs_isA]; exact hna), chs_ch ok _ k hna]
  unfold endG
  rw [hw, next_rest ok a0 a1 h hp, if_pos hk]
theorem mark_tab : ∀ k : Fin 256, fM (six05 (bits .or .u8 (k.val : Int) 1)) = true := by decide +kernel
theorem mark_fM {v : Int} (h : isB v) : fM (six05 (bits .or .u8 v 1)) = true := by
  have h1 := mark_tab ⟨v.toNat, by have := h.2; omega⟩
  have h0 : ((v.toNat : Nat) : Int) = v := by have := h.1; omega
  simp only [h0] at h1
  exact h1
theorem end_modified {X : Spc} (ok : X.Ok) {a : Int} (a0 : 0 ≤ a) (a1 : a < X.r * X.c) (h : X.isA a = true) (hp : 0 < (X.places a).length) : a ∈ (X.endA (a + 1)).modified := by
  have hA := end_alk ok (a + 1)
  have hY := chs_ok ok (g := endG X.ch0 (X.restL (a + 1))) (endG_b (ch0_b ok) _)
  have hst := (next_start ok h hp).1
  rw [Int.emod_eq_of_lt a0 a1] at hst
  unfold Spc.modified
  rw [List.mem_filter]
  constructor
  · have hl := ok.len
    have hl2 := (end_ok ok (a + 1)).len
    refine mem_those.2 ⟨a.toNat, by omega, by rw [hA.len]; omega, ?_⟩
    rw [← Spc.isA_nat (end_ok ok (a + 1)) (by rw [hA.len]; omega), show ((a.toNat : Nat) : Int) = a by omega, hA.at_]
    exact h
  · unfold Spc.endA
    rw [modify_at hY, chs_start, hst, if_pos ⟨a0, by show a % (X.r * X.c) = a; exact Int.emod_eq_of_lt a0 a1⟩]
    have hat : ((chs X (endG X.ch0 (X.restL (a + 1)))).at_ a).mark.at_ = true := by
      show ((chs X (endG X.ch0 (X.restL (a + 1)))).at_ a).at_ = true
      have := chs_isA X (endG X.ch0 (X.restL (a + 1))) a
      unfold Spc.isA at this h
      rw [this]; exact h
    unfold Cl.fit
    rw [if_pos hat]
    exact mark_fM (hY.at_wf a).fa
theorem end_open {X : Spc} (ok : X.Ok) {a : Int} (a0 : 0 ≤ a) (a1 : a < X.r * X.c) (h : X.isA a = true) (hp : 0 < (X.places a).length) (hf : fP (X.at_ a).fa = false) : X.open_ (a + 1) = true := by
  obtain ⟨h1, h2⟩ := next_start ok h hp
  rw [Int.emod_eq_of_lt a0 a1] at h1
  unfold Spc.open_
  rw [h2, h1, hf]; simp
end Go.Proofs.Ytjokcfenncogkaa
