/-
  Layer 14's example. No condition.
  The walk of layer 14's example. No condition.
-/
import Derived.Test.YtjokcfenncogkaaEr14
import Derived.Test.YtjokcfenncogkaaLay14
import Derived.Test.YtjokcfenncogkaaFt13
namespace Go.Proofs.Ytjokcfenncogkaa
open Go.RowKit
set_option linter.unusedVariables false
set_option linter.unusedSimpArgs false

/-- the example's acts -/
def awA (A : Option Addr) (c : Nat) : List ActR := [⟨⟨3, 0, false, 0, Cl.zero, []⟩, none, 0⟩, ⟨⟨3, 4, false, 0, Cl.zero, []⟩, none, 0⟩, ⟨⟨5, 1, false, 0, Cl.zero, [129, 130]⟩, A, c⟩]
def awX : Spc := ((((newS 2).set 0 ⟨0, true, 0, 0, 0, 0⟩).set 4 ⟨0, true, 0, 0, 0, 0⟩).put 1 129).put 2 130
theorem aw_eq (A : Option Addr) (c : Nat) : layS 0 (plains (awA A c)) = awX := by
  simp [layS, acts, plains, awA, Spc.act, awX, textTo]
  have hw : ((((newS 2).set 0 ⟨0, true, 0, 0, 0, 0⟩).set 4 ⟨0, true, 0, 0, 0, 0⟩).wrap 1 : Int) = 1 := by
    show (((1 : Int) % ((newS 2).r * (newS 2).c)).toNat : Int) = 1
    decide
  rw [hw]
  rfl
theorem new2_at (n : Int) : (newS 2).at_ n = Cl.zero := by
  have e : (newS 2).at_ n = (List.replicate 1920 Cl.zero).getD ((newS 2).wrap n) Cl.zero := rfl
  rw [e, List.getD, List.getElem?_replicate]
  split <;> rfl
theorem new2_mc : (newS 2).r * (newS 2).c = 1920 := by decide
theorem awX_mc : awX.r * awX.c = 1920 := new2_mc
theorem aw_wf1 : Cl.Wf ⟨0, true, 0, 0, 0, 0⟩ := ⟨by simp [isB], by simp [isB], by simp [isB], by simp [isB], by simp [isB]⟩
theorem awX_ok : awX.Ok := ((((newS_ok (m := 2) (by omega) (by omega)).set 0 aw_wf1).set 4 aw_wf1).put 1 (by simp [isB])).put 2 (by simp [isB])
theorem awX_at (n : Int) : awX.at_ n = if n % 1920 = 2 then ⟨130, false, 0, 0, 0, 0⟩ else if n % 1920 = 1 then ⟨129, false, 0, 0, 0, 0⟩ else if n % 1920 = 4 then ⟨0, true, 0, 0, 0, 0⟩ else if n % 1920 = 0 then ⟨0, true, 0, 0, 0, 0⟩ else Cl.zero := by
  have ok2 := newS_ok (m := 2) (by omega) (by omega)
  have ok3 := ok2.set 0 aw_wf1
  have ok4 := ok3.set 4 aw_wf1
  have ok5 := ok4.put 1 (x := 129) (by simp [isB])
  have m2 := new2_mc
  have m3 : ((newS 2).set 0 ⟨0, true, 0, 0, 0, 0⟩).r * ((newS 2).set 0 ⟨0, true, 0, 0, 0, 0⟩).c = 1920 := new2_mc
  have m4 : (((newS 2).set 0 ⟨0, true, 0, 0, 0, 0⟩).set 4 ⟨0, true, 0, 0, 0, 0⟩).r * (((newS 2).set 0 ⟨0, true, 0, 0, 0, 0⟩).set 4 ⟨0, true, 0, 0, 0, 0⟩).c = 1920 := new2_mc
  have m5 : ((((newS 2).set 0 ⟨0, true, 0, 0, 0, 0⟩).set 4 ⟨0, true, 0, 0, 0, 0⟩).put 1 129).r * ((((newS 2).set 0 ⟨0, true, 0, 0, 0, 0⟩).set 4 ⟨0, true, 0, 0, 0, 0⟩).put 1 129).c = 1920 := new2_mc
  unfold awX
  rw [at_put14 ok5, m5, at_put14 ok4 1 2, at_put14 ok4 1 n, m4, at_set14 ok3 4 2, at_set14 ok3 4 1, at_set14 ok3 4 n, m3, at_set14 ok2 0 2, at_set14 ok2 0 1, at_set14 ok2 0 n, m2, new2_at, new2_at, new2_at]
  have e2 : putC (if (2 : Int) % 1920 = 1 % 1920 then putC (if (1 : Int) % 1920 = 4 % 1920 then (⟨0, true, 0, 0, 0, 0⟩ : Cl).fit else if (1 : Int) % 1920 = 0 % 1920 then (⟨0, true, 0, 0, 0, 0⟩ : Cl).fit else Cl.zero) 129 else if (2 : Int) % 1920 = 4 % 1920 then (⟨0, true, 0, 0, 0, 0⟩ : Cl).fit else if (2 : Int) % 1920 = 0 % 1920 then (⟨0, true, 0, 0, 0, 0⟩ : Cl).fit else Cl.zero) 130 = ⟨130, false, 0, 0, 0, 0⟩ := by first | rfl | simp [putC, Cl.zero, Cl.fit]
  have e1 : putC (if (1 : Int) % 1920 = 4 % 1920 then (⟨0, true, 0, 0, 0, 0⟩ : Cl).fit else if (1 : Int) % 1920 = 0 % 1920 then (⟨0, true, 0, 0, 0, 0⟩ : Cl).fit else Cl.zero) 129 = ⟨129, false, 0, 0, 0, 0⟩ := by first | rfl | simp [putC, Cl.zero, Cl.fit]
  have e0 : (⟨0, true, 0, 0, 0, 0⟩ : Cl).fit = ⟨0, true, 0, 0, 0, 0⟩ := by first | rfl | simp [putC, Cl.zero, Cl.fit]
  rw [e2, e1, e0]
  rfl
theorem awX_isA (n : Int) : awX.isA n = decide (n % 1920 = 0 ∨ n % 1920 = 4) := by
  unfold Spc.isA
  rw [awX_at]
  by_cases h2 : n % 1920 = 2
  · rw [if_pos h2, h2]; decide
  · rw [if_neg h2]
    by_cases h1 : n % 1920 = 1
    · rw [if_pos h1, h1]; decide
    · rw [if_neg h1]
      by_cases h4 : n % 1920 = 4
      · rw [if_pos h4, h4]; decide
      · rw [if_neg h4]
        by_cases h0 : n % 1920 = 0
        · rw [if_pos h0, h0]; decide
        · rw [if_neg h0]; simp [h0, h4, Cl.zero]
theorem awX_len : awX.L.length = 1920 := by have := awX_ok.len; rw [awX_mc] at this; omega
theorem awX_start : awX.start 1 = 0 := by
  have h : awX.back 1 = some 1 := back_of (by rw [awX_len]; omega) (by rw [awX_isA]; decide) (fun j hj => by rw [awX_isA]; simp; omega)
  rw [start_some h, awX_mc]; decide
theorem awX_places : awX.places 0 = [1, 2, 3] := by
  unfold Spc.places
  rw [awX_isA, if_pos (by decide), cnt_of (d := 3) (by rw [awX_len]; omega) (by rw [awX_isA]; decide) (fun j hj => by rw [awX_isA]; simp; omega)]
  unfold stepsL
  rw [awX_mc]; decide
theorem awX_attrs : 0 < attrsN awX.L := by
  refine attrsN_pos.2 ⟨0, by rw [awX_len]; omega, ?_⟩
  rw [← Spc.isA_nat awX_ok (by rw [awX_len]; omega), awX_isA]; decide
theorem awX_round : awX.roundL 1 = [1, 2, 3] := by
  unfold Spc.roundL
  rw [if_pos awX_attrs]
  unfold Spc.restL
  rw [awX_start, if_neg (by omega), awX_places, awX_mc]; decide
theorem awX_open : awX.open_ 1 = true := by
  unfold Spc.open_
  rw [awX_isA, awX_start, awX_at]; decide
theorem awX_nul : awX.nul (awX.roundL 1) = some 2 := by
  rw [awX_round]
  unfold Spc.nul
  simp only [List.findIdx?_cons, awX_at]
  decide
def awZ : Spc := awX.insA 1 167 2
theorem awG_ok : (insL awX [1, 2, 3] 167 2).Ok := chs_ok awX_ok (updG_b (insG_b (ch0_b awX_ok) _ _ _) _ (by simp [isB]))
theorem awZ_eq : awZ = (insL awX [1, 2, 3] 167 2).modify 1 := by
  unfold awZ Spc.insA
  rw [awX_round]
theorem awZ_alk : Alk awX awZ := by
  rw [awZ_eq]
  exact (chs_alk awX _).trans (modify_alk awG_ok 1)
theorem awZ_ok : awZ.Ok := by rw [awZ_eq]; exact awG_ok.modify 1
theorem awX_wrap (k : Int) (h0 : 0 ≤ k) (h1 : k < 1920) : (awX.wrap k : Int) = k := wrap_at h0 (by rw [awX_mc]; exact h1)
theorem awZ_ch (k : Int) (h : awX.isA k = false) : (awZ.at_ k).ch = updG (insG awX.ch0 [1, 2, 3] 0 2) (awX.wrap 1) 167 (awX.wrap k) := by
  rw [awZ_eq, modify_na awG_ok (by rw [show (insL awX [1, 2, 3] 167 2) = chs awX _ from rfl, chs_isA]; exact h)]
  exact chs_ch awX_ok _ k h
theorem wrap_nat {k : Nat} (h : k < 1920) : awX.wrap (k : Int) = k := by have := awX_wrap (k : Int) (by omega) (by omega); omega
theorem awZ1 : (awZ.at_ 1).ch = 167 := by
  rw [awZ_ch 1 (by rw [awX_isA]; decide)]
  simp [updG]
theorem awZ2 : (awZ.at_ 2).ch = 129 := by
  rw [awZ_ch 2 (by rw [awX_isA]; decide), show (2 : Int) = ((2 : Nat) : Int) from rfl, show (1 : Int) = ((1 : Nat) : Int) from rfl, wrap_nat (by omega), wrap_nat (by omega)]
  have e : awX.ch0 1 = 129 := by unfold Spc.ch0; rw [awX_at]; decide
  simp [updG, insG, List.idxOf_cons, e]
theorem awZ3 : (awZ.at_ 3).ch = 130 := by
  rw [awZ_ch 3 (by rw [awX_isA]; decide), show (3 : Int) = ((3 : Nat) : Int) from rfl, show (1 : Int) = ((1 : Nat) : Int) from rfl, wrap_nat (by omega), wrap_nat (by omega)]
  have e : awX.ch0 2 = 130 := by unfold Spc.ch0; rw [awX_at]; decide
  simp [updG, insG, List.idxOf_cons, e]
theorem awZ_text : awZ.text 0 = [167, 129, 130] := by
  unfold Spc.text
  rw [awZ_alk.places, awX_places]
  simp only [List.map_cons, List.map_nil, awZ1, awZ2, awZ3]
theorem awZ_open : awZ.open_ 1 = true := by
  have hf : (awZ.at_ 0).fa = 1 := by
    rw [awZ_eq, modify_at awG_ok, show (insL awX [1, 2, 3] 167 2) = chs awX (updG (insG awX.ch0 [1, 2, 3] 0 2) (awX.wrap 1) 167) from rfl, chs_start, awX_start]
    rw [if_pos ⟨by omega, by show (0 : Int) % (awX.r * awX.c) = 0; simp⟩, chs_at awX_ok, awX_at]
    decide
  unfold Spc.open_
  rw [awZ_alk.at_, awZ_alk.start, awX_isA, awX_start, hf]; decide
theorem awX_row : awX.row 1 = [1, 2, 3] := by
  have hc : awX.c = 80 := by show (newS 2).c = 80; decide
  have h1 : awX.rest (1 % (awX.r * awX.c)) = 79 := by rw [awX_mc]; unfold Spc.rest; rw [hc]; decide
  have h2 : least (fun i => awX.isA (1 % (awX.r * awX.c) + i)) 79 = some 3 := least_some.2 ⟨by omega, by rw [awX_mc, awX_isA]; decide, fun j hj => by rw [awX_mc, awX_isA]; simp; omega⟩
  have h3 : awX.rowN (1 % (awX.r * awX.c)) = 3 := by unfold Spc.rowN; rw [h1, h2]; rfl
  unfold Spc.row
  rw [h3, awX_mc]
  have h4 : rowTo 1 3 = [1, 2, 3] := by decide
  exact h4
theorem awD_ok {Z : Spc} (ok : Z.Ok) : (chs Z (delG Z.ch0 [1, 2, 3] 3)).Ok := chs_ok ok (delG_b (ch0_b ok) _ _)
theorem awD_eq {Z : Spc} (hA : Alk awX Z) : Z.delA 1 = (chs Z (delG Z.ch0 [1, 2, 3] 3)).modify 1 := by
  unfold Spc.delA
  rw [hA.row, awX_row, show ([1, 2, 3] : List Int).length = 3 from rfl]
theorem awD_ch {Z : Spc} (hA : Alk awX Z) (ok : Z.Ok) (k : Int) (h : awX.isA k = false) : ((Z.delA 1).at_ k).ch = delG Z.ch0 [1, 2, 3] 3 (awX.wrap k) := by
  have h2 : Z.isA k = false := by rw [hA.at_]; exact h
  rw [awD_eq hA, modify_na (awD_ok ok) (by rw [chs_isA]; exact h2), chs_ch ok _ k h2]
  have hw : Z.wrap k = awX.wrap k := by unfold Spc.wrap; rw [hA.r, hA.c]
  rw [hw]
theorem del_text {Z : Spc} (hA : Alk awX Z) (ok : Z.Ok) (h2 : (Z.at_ 2).ch = 129) (h3 : (Z.at_ 3).ch = 130) : (Z.delA 1).text 0 = [129, 130, 0] := by
  have hp : (Z.delA 1).places 0 = [1, 2, 3] := by
    rw [awD_eq hA, ((chs_alk Z _).trans (modify_alk (awD_ok ok) 1)).places, hA.places, awX_places]
  have c2 : Z.ch0 2 = 129 := by
    show (Z.at_ ((2 : Nat) : Int)).ch = _
    rw [show ((2 : Nat) : Int) = 2 from rfl]
    exact h2
  have c3 : Z.ch0 3 = 130 := by
    show (Z.at_ ((3 : Nat) : Int)).ch = _
    rw [show ((3 : Nat) : Int) = 3 from rfl]
    exact h3
  have e1 : ((Z.delA 1).at_ 1).ch = 129 := by
    rw [awD_ch hA ok 1 (by rw [awX_isA]; decide), show (1 : Int) = ((1 : Nat) : Int) from rfl, wrap_nat (by omega)]
    simp [delG, List.idxOf_cons, c2]
  have e2 : ((Z.delA 1).at_ 2).ch = 130 := by
    rw [awD_ch hA ok 2 (by rw [awX_isA]; decide), show (2 : Int) = ((2 : Nat) : Int) from rfl, wrap_nat (by omega)]
    simp [delG, List.idxOf_cons, c3]
  have e3 : ((Z.delA 1).at_ 3).ch = 0 := by
    rw [awD_ch hA ok 3 (by rw [awX_isA]; decide), show (3 : Int) = ((3 : Nat) : Int) from rfl, wrap_nat (by omega)]
    simp [delG, List.idxOf_cons]
  unfold Spc.text
  rw [hp]
  simp only [List.map_cons, List.map_nil, e1, e2, e3]
theorem awD_text : (awZ.delA 1).text 0 = [129, 130, 0] := del_text awZ_alk awZ_ok awZ2 awZ3
end Go.Proofs.Ytjokcfenncogkaa
namespace Go.Proofs.Ytjokcfenncogkaa
open Go.RowKit
set_option linter.unusedVariables false
set_option linter.unusedSimpArgs false

theorem aw_wf14 (A : Option Addr) (c : Nat) : ∀ a ∈ plains (awA A c), a.Wf := by
  intro a ha
  simp [plains, awA] at ha
  rcases ha with rfl | rfl | rfl
  · exact ⟨by simp [isB], by simp [isB], Cl.zero_wf, by simp⟩
  · exact ⟨by simp [isB], by simp [isB], Cl.zero_wf, by simp⟩
  · exact ⟨by simp [isB], by simp [isB], Cl.zero_wf, by simp [isB]⟩
set_option maxRecDepth 100000 in
set_option maxHeartbeats 6400000 in
theorem awake14 (w : World) : Calls Try.prog 94 #[] w fun e w' => e = .returned (.bool true) ∧ Up w w' := by
  have HX := Lib.hid awX_ok
  have HXO := Lib.hid awX_open
  have HXN := Lib.hid awX_nul
  have HZ := Lib.hid awZ_ok
  have HZO := Lib.hid awZ_open
  have HZT := Lib.hid awZ_text
  have HDT := Lib.hid awD_text
  have HDO := Lib.hid (show (awZ.delA 1).Ok from (chs_ok awZ_ok (delG_b (ch0_b awZ_ok) _ _)).modify 1)
  have HZE := Lib.hid (show awX.insA 1 167 2 = awZ from rfl)
  have HLE := Lib.hid (fun A c => aw_eq A c)
  obtain ⟨XX, hXX⟩ : ∃ XX, awX = XX := ⟨_, rfl⟩
  obtain ⟨ZZ, hZZ⟩ : ∃ ZZ, awZ = ZZ := ⟨_, rfl⟩
  rw [hZZ] at HZ HZO HZT HDT HDO HZE
  rw [hXX] at HX HXO HXN HZE HLE
  clear hXX hZZ
  go_enter Try.func94, Try.ntmps94
  go_wp2_with fail
  obtain ⟨wb, hwb⟩ : ∃ wb, w.alloc (.cells #[.int .u8 129, .int .u8 130] 5) = wb := ⟨_, rfl⟩
  have hz : wb.heap.size = w.heap.size + 1 := by rw [← hwb]; simp
  have hrb : Reads wb wb.heap.size 1 (some ⟨w.heap.size, 0, none⟩) 2 (bs [129, 130]) := by
    rw [hz, ← hwb]; exact reads_at w w.heap.size 1 2 _ _ rfl rfl
  have hub : Up w wb := by rw [← hwb]; exact (Up.refl w).alloc _
  have HUB := Lib.hid hub
  have HRB := Lib.hid hrb
  rw [hwb, ← hz]
  clear hwb hub hrb
  refine (lay14_is (m := 0) (l := awA (some ⟨w.heap.size, 0, none⟩) 2) (by omega) (by omega) (by simp) (reads_at wb wb.heap.size 11 3 _ _ rfl rfl) rfl (by omega) (by simp [maxLen]) (fun x hx => ?_)).mono ?_
  · have hwf : x.a.Wf := aw_wf14 (some ⟨w.heap.size, 0, none⟩) 2 x.a (by simp only [plains, List.mem_map]; exact ⟨x, hx, rfl⟩)
    simp only [awA, List.mem_cons, List.mem_nil_iff, or_false] at hx
    rcases hx with rfl | rfl | rfl
    · exact ⟨hwf, by simp, by simp [maxLen], Reads.none_⟩
    · exact ⟨hwf, by simp, by simp [maxLen], Reads.none_⟩
    · exact ⟨hwf, by simp, by simp [maxLen], ((HRB.out.alloc (Nat.le_refl _) _).more (by omega))⟩
  · rintro e w1 ⟨p, g, q, h, rfl, h1, h2, h3, hu1⟩
    rw [HLE.out] at h1
    have HS := Lib.hid h1
    have HU := Lib.hid hu1
    have HN := Lib.hid h3
    clear h1 h2 h3 hu1
    have HI := Lib.hid (fun W (h : SAt W p g XX) => cins_yes (n := 1) (x := 167) (e := 2) ⟨by omega, by omega⟩ h HX.out HXO.out HXN.out)
    rw [HZE.out] at HI
    have HT := Lib.hid (fun W (h : SAt W p g ZZ) => ftext_is 0 h HZ.out)
    rw [HZT.out] at HT
    have HD := Lib.hid (fun W (h : SAt W p g ZZ) => cdel_yes (n := 1) h HZ.out HZO.out)
    have HT2 := Lib.hid (fun W (h : SAt W p g (ZZ.delA 1)) => ftext_is 0 h HDO.out)
    rw [HDT.out] at HT2
    have es1 : strOf [167, 129, 130] = ByteArray.mk #[167, 129, 130] := by rfl
    have es2 : strOf [129, 130, 0] = ByteArray.mk #[129, 130, 0] := by rfl
    go_wp2_with fail
    refine (HI.out _ HS.out).mono ?_
    rintro e w2 ⟨rfl, hs2, hk2⟩
    have HS2 := Lib.hid hs2
    have HK2 := Lib.hid hk2
    clear hs2 hk2
    go_wp2_with fail
    refine (HT.out _ HS2.out).mono ?_
    rintro e w3 ⟨A3, c3, rfl, hown3, hu3⟩
    have k3 := run_string_bytes (P := Try.prog) w3 33 9 5 (c := c3) Try.underlying33 Try.underlying5 Try.underlying9 hown3.reads
    have HU3 := Lib.hid hu3
    simp only [List.length_cons, List.length_nil, Nat.zero_add, Nat.reduceAdd] at k3 ⊢
    clear hown3 hu3
    go_wp2_with fail
    refine (HD.out _ (HS2.out.up HU3.out)).mono ?_
    rintro e w4 ⟨rfl, hs4, hk4⟩
    have HS4 := Lib.hid hs4
    have HK4 := Lib.hid hk4
    clear hs4 hk4 k3
    go_wp2_with fail
    refine (HT2.out _ HS4.out).mono ?_
    rintro e w5 ⟨A5, c5, rfl, hown5, hu5⟩
    have k5 := run_string_bytes (P := Try.prog) w5 33 9 5 (c := c5) Try.underlying33 Try.underlying5 Try.underlying9 hown5.reads
    have HU5 := Lib.hid hu5
    simp only [List.length_cons, List.length_nil, Nat.zero_add, Nat.reduceAdd] at k5 ⊢
    clear hown5 hu5
    go_wp2_with fail
    go_ret
    have h9 := HN.out
    simp at h9
    have HUW := (((HUB.out.alloc _).trans HU.out).keep HK2.out (fun i hi => by rcases hi with hi | hi <;> omega)).trans HU3.out
    exact ⟨rfl, (HUW.keep HK4.out (fun i hi => by rcases hi with hi | hi <;> omega)).trans HU5.out⟩
end Go.Proofs.Ytjokcfenncogkaa
