/-
  What space's Copy makes, and Same says. No condition.
-/
import Derived.Test.YtjokcfenncogkaaSp4
import Derived.Test.YtjokcfenncogkaaEqC
namespace Go.Proofs.Ytjokcfenncogkaa
open Go.RowKit
set_option linter.unusedVariables false
set_option linter.unusedSimpArgs false

def flatC (L : List Cl) : List Value := L.flatMap Cl.enc
theorem flatC_len (L : List Cl) : (flatC L).length = L.length * 6 := flatMap_len (k := 6) (enc := Cl.enc) (fun _ => rfl) L
theorem flatC_one (L : List Cl) : ∀ u ∈ flatC L, u.oneCell' = true := by
  intro u hu
  simp only [flatC, List.mem_flatMap] at hu
  obtain ⟨c, _, hu⟩ := hu
  simp only [Cl.enc, List.mem_cons, List.not_mem_nil, or_false] at hu
  rcases hu with rfl | rfl | rfl | rfl | rfl | rfl <;> rfl
theorem CellsAt.reads {w : World} {g : Nat} {L : List Cl} (h : CellsAt w g L) : Reads w w.heap.size 6 (some ⟨g, 0, none⟩) L.length (flatC L) := by
  refine ⟨flatC_len L, fun _ => ⟨g, 0, rfl, h.2.1, fun j u hu => ?_⟩⟩
  rw [Nat.zero_add]
  obtain ⟨c, h1, h2⟩ := flatMap_at (k := 6) (enc := Cl.enc) (fun _ => rfl) (by omega) L j u hu
  have hc := h.2.2 _ c h1
  have hm : j % 6 < 6 := by omega
  have e : j / 6 * 6 + j % 6 = j := by omega
  obtain ⟨c0, c1, c2, c3, c4, c5⟩ := hc
  rw [← e]
  rcases (show j % 6 = 0 ∨ j % 6 = 1 ∨ j % 6 = 2 ∨ j % 6 = 3 ∨ j % 6 = 4 ∨ j % 6 = 5 by omega) with hj | hj | hj | hj | hj | hj <;> rw [hj] at h2 ⊢ <;> simp only [Cl.enc, List.getElem?_cons_zero, List.getElem?_cons_succ, Option.some.injEq] at h2 <;> subst h2 <;> assumption
theorem CellsAt.of_own {w : World} {B n c : Nat} {e : TypeId} {A : Option Addr} {L : List Cl} (h : w.ownsRow B e 6 (.slice A n c) n (flatC L)) (h0 : 0 < L.length) : ∃ g, A = some ⟨g, 0, none⟩ ∧ B ≤ g ∧ CellsAt w g L ∧ n = L.length ∧ n ≤ c ∧ c ≤ maxLen := by
  have hn : n = L.length := by have := h.1; rw [flatC_len] at this; omega
  rcases h.2 with ⟨e1, e2⟩ | ⟨g, cap, cur, e1, e2, e3, e4, e5, e6, e7⟩
  · omega
  · injection e1 with e1 e1' e1''
    subst e1; subst e1''
    refine ⟨g, rfl, e2, ⟨fun o => ?_, (Array.getElem?_eq_some_iff.1 e3).1, fun i d hi => ?_⟩, hn, e4, e5⟩
    · simp only [World.frozen?, e3]
      simp
    · have hc : ∀ j u, d.enc[j]? = some u → w.cell? ⟨g, i * 6 + j, none⟩ = some u := by
        have hr := Reads.of_own h
        intro j u hu
        have := row_at (k := 6) (enc := Cl.enc) (fun _ => rfl) (L := L) hr hi (by omega) j u hu
        rwa [Nat.zero_add] at this
      exact ⟨hc 0 _ rfl, hc 1 _ rfl, hc 2 _ rfl, hc 3 _ rfl, hc 4 _ rfl, hc 5 _ rfl⟩
set_option maxRecDepth 100000 in
set_option maxHeartbeats 1600000 in
theorem clone_is {g cap : Nat} {L : List Cl} {w : World} (h : CellsAt w g L) (h0 : 0 < L.length) (hn : L.length ≤ 65536) :
    Calls Try.prog 116 #[.slice (some ⟨g, 0, none⟩) L.length cap] w fun e w' => ∃ g' c', e = .returned (.slice (some ⟨g', 0, none⟩) L.length c') ∧ w.heap.size ≤ g' ∧ L.length ≤ c' ∧ c' ≤ maxLen ∧ CellsAt w' g' L ∧ Up w w' := by
  obtain ⟨i0, hi, hz0, hz1, hz2⟩ := info_parts (show (Try.prog.info? 25).map (fun i => (i.zero, i.size, i.bytes)) = some (some Cl.zero.val, 6, 6) by kernel_rfl)
  have hr := h.reads
  have HR := Lib.hid hr
  have H0 := Lib.hid h0
  obtain ⟨n, hnn⟩ : ∃ n, L.length = n := ⟨_, rfl⟩
  have HN := Lib.hid hnn
  rw [hnn] at HR hn ⊢
  have hnil := Lib.run_eql_slice_nil (P := Try.prog) w 59 25 (some ⟨g, 0, none⟩) n cap 0 0 Try.underlying59
  clear hr h hnn h0
  go_enter Try.func116, Try.ntmps116
  go_wp2_with (at_builtin; refine wpList_app _ rfl (.tmp 5) (.tmp 6) 59 rfl w.heap.size 25 i0 _ 6 6 Try.underlying59 hi hz0 hz1 hz2 rfl (by decide) _ 0 0 [] rfl (World.ownsRow_lit w #[] 0 (Nat.le_refl _) (by simp [maxLen]) rfl) w.heap.size (some ⟨g, 0, none⟩) n cap (flatC L) rfl (HR.out.alloc (Nat.le_refl _) _) (flatC_one L) (by simp [maxLen]; omega) (by omega) (by simp) ?_; intro A1 c1 w1 hown1 hg1 hle1 hmx1 hbl1; have HO1 := Lib.hid hown1; have HB1 := Lib.hid hbl1; clear hown1 hg1 hbl1)
  go_ret
  have ho := HO1.out
  simp only [Nat.zero_add, List.nil_append] at ho
  obtain ⟨g', rfl, hg', hc', e1, e2, e3⟩ := CellsAt.of_own ho (by have := H0.out; omega)
  exact ⟨g', c1, by simp, hg', e2, e3, hc', ((Up.refl _).alloc _).past HB1.out⟩
end Go.Proofs.Ytjokcfenncogkaa
