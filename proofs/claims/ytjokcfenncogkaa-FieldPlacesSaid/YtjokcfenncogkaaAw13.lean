/-
  Layer 13's example. No condition.
-/
import Derived.Test.YtjokcfenncogkaaLen13
import Derived.Test.YtjokcfenncogkaaLay13
namespace Go.Proofs.Ytjokcfenncogkaa
open Go.RowKit
set_option linter.unusedVariables false
set_option linter.unusedSimpArgs false

theorem at_set {X : Spc} (ok : X.Ok) (n m : Int) (c : Cl) : (X.set n c).at_ m = if m % (X.r * X.c) = n % (X.r * X.c) then c.fit else X.at_ m := by
  obtain ⟨e1, h1⟩ := ok.wrap n
  obtain ⟨e2, h2⟩ := ok.wrap m
  have e : (X.set n c).at_ m = (X.L.set (X.wrap n) c.fit).getD (X.wrap m) Cl.zero := rfl
  rw [e, e1, e2]
  by_cases h : X.wrap m = X.wrap n
  · rw [if_pos (by omega), h, List.getD, List.getElem?_set_self h1]; rfl
  · rw [if_neg (by omega), List.getD, List.getElem?_set_ne (fun e => h e.symm)]; rfl
/-- the example's acts -/
def awA : List ActR := [⟨⟨3, 2, false, 32, Cl.zero, []⟩, none, 0⟩, ⟨⟨3, 5, false, 0, Cl.zero, []⟩, none, 0⟩]
theorem aw_eq : layS 0 (plains awA) = ((newS 2).set 2 ⟨0, true, 32, 0, 0, 0⟩).set 5 ⟨0, true, 0, 0, 0, 0⟩ := by
  simp [layS, acts, plains, awA, Spc.act]
theorem new2_at (n : Int) : (newS 2).at_ n = Cl.zero := by
  have e : (newS 2).at_ n = (List.replicate 1920 Cl.zero).getD ((newS 2).wrap n) Cl.zero := rfl
  rw [e, List.getD, List.getElem?_replicate]
  split <;> rfl
theorem new2_mc : (newS 2).r * (newS 2).c = 1920 := by decide
theorem aw_at (n : Int) : (layS 0 (plains awA)).at_ n = if n % 1920 = 5 then ⟨0, true, 0, 0, 0, 0⟩ else if n % 1920 = 2 then ⟨0, true, 32, 0, 0, 0⟩ else Cl.zero := by
  have ok2 := newS_ok (m := 2) (by omega) (by omega)
  have h1 : Cl.Wf ⟨0, true, 32, 0, 0, 0⟩ := ⟨by simp [isB], by simp [isB], by simp [isB], by simp [isB], by simp [isB]⟩
  have ok3 := ok2.set 2 h1
  rw [aw_eq, at_set ok3 5 n]
  have e3 : ((newS 2).set 2 ⟨0, true, 32, 0, 0, 0⟩).r * ((newS 2).set 2 ⟨0, true, 32, 0, 0, 0⟩).c = 1920 := new2_mc
  rw [e3, at_set ok2 2 n, new2_mc, new2_at]
  rfl
theorem aw_mc : (layS 0 (plains awA)).r * (layS 0 (plains awA)).c = 1920 := by rw [aw_eq]; exact new2_mc
theorem aw_wf : ∀ a ∈ plains awA, a.Wf := by
  intro a ha
  simp [plains, awA] at ha
  rcases ha with rfl | rfl
  · exact ⟨by simp [isB], by simp [isB], Cl.zero_wf, by simp⟩
  · exact ⟨by simp [isB], by simp [isB], Cl.zero_wf, by simp⟩
theorem aw_ok : (layS 0 (plains awA)).Ok := layS_ok (by omega) aw_wf
theorem aw_len : (layS 0 (plains awA)).L.length = 1920 := by have := aw_ok.len; rw [aw_mc] at this; omega
theorem aw_isA (n : Int) : (layS 0 (plains awA)).isA n = decide (n % 1920 = 5 ∨ n % 1920 = 2) := by
  unfold Spc.isA
  rw [aw_at]
  by_cases h5 : n % 1920 = 5
  · simp [h5]
  · by_cases h2 : n % 1920 = 2
    · simp [h2]
    · simp [h5, h2, Cl.zero]
theorem aw_start : (layS 0 (plains awA)).start 1 = 5 := by
  have h : (layS 0 (plains awA)).back 1 = some 1916 := back_of (by rw [aw_len]; omega) (by rw [aw_isA]; decide) (fun j hj => by rw [aw_isA]; simp; omega)
  rw [start_some h, aw_mc]; decide
theorem aw_fst (n : Int) : (layS 0 (plains awA)).fst n = decide (n % 1920 = 6) := by
  unfold Spc.fst
  rw [aw_isA, aw_isA, aw_at]
  by_cases h6 : n % 1920 = 6
  · rw [show (n - 1) % 1920 = 5 by omega, h6]; decide
  · by_cases h3 : n % 1920 = 3
    · rw [show (n - 1) % 1920 = 2 by omega, h3]; decide
    · have e1 : ¬ (n - 1) % 1920 = 5 := by omega
      have e2 : ¬ (n - 1) % 1920 = 2 := by omega
      simp [e1, e2, h6]
theorem aw_next : (layS 0 (plains awA)).find 0 1 = 6 := by
  have h : (layS 0 (plains awA)).far 0 1 = some 5 := least_some.2 ⟨by rw [aw_len]; omega, by rw [aw_fst]; decide, fun j hj => by rw [aw_fst]; simp; omega⟩
  unfold Spc.find
  rw [h, aw_mc]; decide
theorem aw_count : (layS 0 (plains awA)).places 5 = stepsL (layS 0 (plains awA)) 5 1916 := by
  unfold Spc.places
  rw [aw_isA, if_pos (by decide), cnt_of (d := 1916) (by rw [aw_len]; omega) (by rw [aw_isA]; decide) (fun j hj => by rw [aw_isA]; simp; omega)]
set_option maxRecDepth 100000 in
set_option maxHeartbeats 3200000 in
theorem awake13 (w : World) : Calls Try.prog 36 #[] w fun e w' => e = .returned (.bool true) ∧ Up w w' := by
  have hs := aw_start
  have hn := aw_next
  have hc : (((layS 0 (plains awA)).places 5).length : Int) = 1916 := by rw [aw_count, stepsL_len]; rfl
  go_enter Try.func36, Try.ntmps36
  go_wp2_with fail
  refine (lay13_is (m := 0) (l := awA) (by omega) (by omega) (by simp) (reads_at w w.heap.size 11 2 _ _ rfl rfl) rfl (by omega) (by simp [maxLen]) (fun x hx => ?_)).mono ?_
  · simp [awA] at hx
    rcases hx with rfl | rfl
    · exact ⟨aw_wf _ (by simp [plains, awA]), by simp, by simp [maxLen], Reads.none_⟩
    · exact ⟨aw_wf _ (by simp [plains, awA]), by simp, by simp [maxLen], Reads.none_⟩
  · rintro e w1 ⟨p, g, q, h, rfl, h1, h2, h3, hu1⟩
    have HS := Lib.hid h1
    have HU := Lib.hid hu1
    clear h1 h2 h3 hu1
    have H1 := Lib.hid (fun W (h : SAt W p g (layS 0 (plains awA))) => fstart_is 1 h aw_ok)
    have H2 := Lib.hid (fun W (h : SAt W p g (layS 0 (plains awA))) => fnext_is 0 h aw_ok)
    have H3 := Lib.hid (fun W (h : SAt W p g (layS 0 (plains awA))) => flength_is 5 h aw_ok)
    rw [hs] at H1
    rw [hn] at H2
    rw [hc] at H3
    clear hs hn hc
    generalize layS 0 (plains awA) = X at *
    go_wp2_with fail
    refine (H1.out _ HS.out).mono ?_
    rintro e w2 ⟨rfl, hu2⟩
    go_wp2_with fail
    refine (H2.out _ (HS.out.up hu2)).mono ?_
    rintro e w3 ⟨rfl, hu3⟩
    go_wp2_with fail
    refine (H3.out _ (HS.out.up (hu2.trans hu3))).mono ?_
    rintro e w4 ⟨rfl, hu4⟩
    go_wp2_with fail
    go_ret
    exact ⟨rfl, ((((Up.refl w).alloc _).trans HU.out).trans (hu2.trans (hu3.trans hu4)))⟩
end Go.Proofs.Ytjokcfenncogkaa
