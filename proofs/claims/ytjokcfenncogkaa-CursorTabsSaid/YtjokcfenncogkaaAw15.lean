/-
  Layer 15's example. No condition.
-/
import Derived.Test.YtjokcfenncogkaaCur1
import Derived.Test.YtjokcfenncogkaaLay15
namespace Go.Proofs.Ytjokcfenncogkaa
open Go.RowKit
set_option linter.unusedVariables false
set_option linter.unusedSimpArgs false

theorem at_set {X : Spc} (ok : X.Ok) (n m : Int) (c : Cl) : (X.set n c).at_ m = if m % (X.r * X.c) = n % (X.r * X.c) then c.fit else X.at_ m := by
  obtain ⟨e1, h1⟩ := ok.wrap n
  obtain ⟨e2, h2⟩ := ok.wrap m
  have e : (X.set n c).at_ m = (X.L.set (X.wrap n) c.fit).getD (X.wrap m) Cl.zero := rfl
  rw [e, e1, e2]
  by_cases h : X.wrap m = X.wrap n
  · rw [if_pos (by omega), h, List.getD, List.getElem?_set_self h1]; rfl
  · rw [if_neg (by omega), List.getD, List.getElem?_set_ne (fun e => h e.symm)]; rfl
/-- the example's acts -/
def awA : List ActR := [⟨⟨3, 0, false, 48, Cl.zero, []⟩, none, 0⟩, ⟨⟨3, 5, false, 0, Cl.zero, []⟩, none, 0⟩, ⟨⟨1, 3, false, 0, Cl.zero, []⟩, none, 0⟩]
theorem aw_eq : layS 0 (plains awA) = (((newS 2).set 0 ⟨0, true, 48, 0, 0, 0⟩).set 5 ⟨0, true, 0, 0, 0, 0⟩).place 3 := by
  simp [layS, acts, plains, awA, Spc.act]
theorem new2_at (n : Int) : (newS 2).at_ n = Cl.zero := by
  have e : (newS 2).at_ n = (List.replicate 1920 Cl.zero).getD ((newS 2).wrap n) Cl.zero := rfl
  rw [e, List.getD, List.getElem?_replicate]
  split <;> rfl
theorem new2_mc : (newS 2).r * (newS 2).c = 1920 := by decide
theorem place_at {X : Spc} (n m : Int) : (X.place n).at_ m = X.at_ m := rfl
theorem aw_at (n : Int) : (layS 0 (plains awA)).at_ n = if n % 1920 = 5 then ⟨0, true, 0, 0, 0, 0⟩ else if n % 1920 = 0 then ⟨0, true, 48, 0, 0, 0⟩ else Cl.zero := by
  have ok2 := newS_ok (m := 2) (by omega) (by omega)
  have h1 : Cl.Wf ⟨0, true, 48, 0, 0, 0⟩ := ⟨by simp [isB], by simp [isB], by simp [isB], by simp [isB], by simp [isB]⟩
  have ok3 := ok2.set 0 h1
  rw [aw_eq, place_at, at_set ok3 5 n]
  have e3 : ((newS 2).set 0 ⟨0, true, 48, 0, 0, 0⟩).r * ((newS 2).set 0 ⟨0, true, 48, 0, 0, 0⟩).c = 1920 := new2_mc
  rw [e3, at_set ok2 0 n, new2_mc, new2_at]
  rfl
theorem aw_mc : (layS 0 (plains awA)).r * (layS 0 (plains awA)).c = 1920 := by rw [aw_eq]; exact new2_mc
theorem aw_wf : ∀ a ∈ plains awA, a.Wf := by
  intro a ha
  simp [plains, awA] at ha
  rcases ha with rfl | rfl | rfl
  · exact ⟨by simp [isB], by simp [isB], Cl.zero_wf, by simp⟩
  · exact ⟨by simp [isB], by simp [isB], Cl.zero_wf, by simp⟩
  · exact ⟨by simp [isB], by simp [isB], Cl.zero_wf, by simp⟩
theorem aw_ok : (layS 0 (plains awA)).Ok := layS_ok (by omega) aw_wf
theorem aw_len : (layS 0 (plains awA)).L.length = 1920 := by have := aw_ok.len; rw [aw_mc] at this; omega
theorem aw_isA (n : Int) : (layS 0 (plains awA)).isA n = decide (n % 1920 = 5 ∨ n % 1920 = 0) := by
  unfold Spc.isA
  rw [aw_at]
  by_cases h5 : n % 1920 = 5
  · simp [h5]
  · by_cases h2 : n % 1920 = 0
    · simp [h2]
    · simp [h5, h2, Cl.zero]
theorem aw_fst (n : Int) : (layS 0 (plains awA)).fst n = decide (n % 1920 = 6) := by
  unfold Spc.fst
  rw [aw_isA, aw_isA, aw_at]
  by_cases h6 : n % 1920 = 6
  · rw [show (n - 1) % 1920 = 5 by omega, h6]; decide
  · by_cases h3 : n % 1920 = 1
    · rw [show (n - 1) % 1920 = 0 by omega, h3]; decide
    · have e1 : ¬ (n - 1) % 1920 = 5 := by omega
      have e2 : ¬ (n - 1) % 1920 = 0 := by omega
      simp [e1, e2, h6]
theorem aw_cur : (layS 0 (plains awA)).cur = 3 := by rw [aw_eq]; rfl
theorem aw_next : (layS 0 (plains awA)).find 3 1 = 6 := by
  have h : (layS 0 (plains awA)).far 3 1 = some 2 := least_some.2 ⟨by rw [aw_len]; omega, by rw [aw_fst]; decide, fun j hj => by rw [aw_fst]; simp; omega⟩
  unfold Spc.find
  rw [h, aw_mc]; decide
set_option maxRecDepth 100000 in
set_option maxHeartbeats 3200000 in
theorem awake15 (w : World) : Calls Try.prog 41 #[] w fun e w' => e = .returned (.bool true) ∧ Up w w' := by
  have hc := aw_cur
  have hn : tabN (layS 0 (plains awA)) 3 1 = 6 := by unfold tabN; rw [aw_next]; decide
  go_enter Try.func41, Try.ntmps41
  go_wp2_with fail
  refine (lay15_is (m := 0) (l := awA) (by omega) (by omega) (by simp) (reads_at w w.heap.size 11 3 _ _ rfl rfl) rfl (by omega) (by simp [maxLen]) (fun x hx => ?_)).mono ?_
  · simp [awA] at hx
    rcases hx with rfl | rfl | rfl
    · exact ⟨aw_wf _ (by simp [plains, awA]), by simp, by simp [maxLen], Reads.none_⟩
    · exact ⟨aw_wf _ (by simp [plains, awA]), by simp, by simp [maxLen], Reads.none_⟩
    · exact ⟨aw_wf _ (by simp [plains, awA]), by simp, by simp [maxLen], Reads.none_⟩
  · rintro e w1 ⟨p, g, q, h, rfl, h1, h2, h3, hu1⟩
    have HS := Lib.hid h1
    have HU := Lib.hid hu1
    have HN := Lib.hid h3
    have H1 := Lib.hid (ctab_is h1 aw_ok)
    clear h1 h2 h3 hu1
    rw [hc, hn] at H1
    have H2 := Lib.hid (fun W (h : SAt W p g ((layS 0 (plains awA)).goTo 6)) => scur_is h)
    have e6 : ((layS 0 (plains awA)).goTo 6).cur = 6 := rfl
    rw [e6] at H2
    clear hc hn e6
    generalize (layS 0 (plains awA)).goTo 6 = Y at *
    go_wp2_with fail
    refine H1.out.mono ?_
    rintro e w2 ⟨rfl, hs2, hk2⟩
    go_wp2_with fail
    refine (H2.out _ hs2).mono ?_
    rintro e w3 ⟨rfl, rfl⟩
    go_wp2_with fail
    go_ret
    exact ⟨rfl, (((Up.refl w).alloc _).trans HU.out).keep hk2 (fun i hi => by have h9 := HN.out; simp at h9; rcases hi with hi | hi <;> omega)⟩
end Go.Proofs.Ytjokcfenncogkaa
