/-
  The law's awake: the document's examples. Condition: write's table lies as the row lists it.
-/
import Derived.Test.YtfambgigdhkiaaaDoorSActs
import Derived.Test.YtfambgigdhkiaaaDoorLSame
namespace Go.Proofs.YtfambgigdhkiaaaDoor
open Go.RowKit
set_option linter.unusedVariables false
set_option linter.unusedSimpArgs false

def l9 : List Int := [0, 5, 1, 255, 2, 0, 4, 3, 128]
theorem acts9 : (actsOf l9).2 = 0 ∧ ∃ a b, (actsOf l9).1 = [a, b] ∧ a.kind = 1 ∧ b.kind = 4 ∧ b.alt = true := by
  have h : actsOf l9 = ([⟨1, 0, 0, false, 0, [], []⟩, ⟨4, 0, 0, true, 0, [], []⟩], 0) := by rfl
  rw [h]
  exact ⟨rfl, _, _, rfl, rfl, rfl, rfl⟩
theorem sl_lit (W : World) (l : List Int) (h : BL l) (hn : l.length ≤ 65536) (n g : Nat) (hg : g = W.heap.size) (cs : Array Value) (hc : cs = (bs l).toArray) (hl : l.length = n) : Sl W.heap.size (W.alloc (.cells cs 5)) (some ⟨g, 0, none⟩) n n l := by
  subst hg; subst hc; subst hl
  have := World.ownsRow_lit (base := W.heap.size) (size := 1) (e := 5) W (bs l).toArray l.length (Nat.le_refl _) (by simp [maxLen]; omega) (by simp [bs])
  exact Sl.of_own (by simpa using this) (Nat.le_refl _) (by simp [maxLen]; omega) hn h
theorem ea_at {e : TypeId} {B : Nat} {w : World} {A : Option Addr} {c : Nat} {xs : List EA} (h : FL e 7 EA.cells EA.inn B w A c xs) {j : Nat} {x : EA} (hj : xs[j]? = some x) :
    ∃ b, A = some ⟨b, 0, none⟩ ∧ b < w.heap.size ∧ (∀ i u, x.cells[i]? = some u → w.cell? ⟨b, j * 7 + i, none⟩ = some u) ∧ ∀ s ∈ x.inn, Sl B w s.1 s.2.2.length s.2.1 s.2.2 := by
  have hlt := (List.getElem?_eq_some_iff.1 hj).1
  have hr := Reads.of_own h.own
  rcases h.own.2 with ⟨e1, e2⟩ | ⟨g, cap, cur, e1, _, _⟩
  · omega
  · injection e1 with e1 _ _
    subst e1
    obtain ⟨b', off', e3, hb, _⟩ := hr.2 (by omega)
    injection e3 with e3
    injection e3 with e3 _ _
    subst e3
    have := row_at (enc := EA.cells) (k := 7) (fun _ => rfl) hr hj (by decide)
    simp only [Nat.zero_add] at this
    exact ⟨g, rfl, hb, this, fun s hs => h.good x (List.mem_of_getElem? hj) s hs⟩
set_option maxHeartbeats 1600000 in
theorem awake21 (w : World) (ht : TabW w) : Calls Tryd.prog 8 #[] w fun e w' => e = .returned (.bool true) ∧ Up w w' := by
  have HT := Lib.hid ht
  clear ht
  go_enter Tryd.func8, Tryd.ntmps8
  go_wp2_with fail
  refine (sacts_is (HT.out.up ((Up.refl w).alloc _)) (sl_lit w l9 (by unfold BL l9; decide) (by decide) 9 w.heap.size rfl _ rfl rfl)).mono ?_
  obtain ⟨a0, a, b, a1, ha, hb, hb'⟩ := acts9
  rintro e w1 ⟨A, c, ys, rfl, hfl, hmap, hu⟩
  rw [a1] at hmap
  rw [a0]
  have hlen : ys.length = 2 := by have := congrArg List.length hmap; simpa using this
  obtain ⟨y0, h0⟩ : ∃ y, ys[0]? = some y := ⟨_, List.getElem?_eq_getElem (by omega)⟩
  obtain ⟨y1, h1⟩ : ∃ y, ys[1]? = some y := ⟨_, List.getElem?_eq_getElem (by omega)⟩
  have e0 : y0.a = a := by
    have := congrArg (fun l => l[0]?) hmap
    simpa [h0] using this
  have e1 : y1.a = b := by
    have := congrArg (fun l => l[1]?) hmap
    simpa [h1] using this
  obtain ⟨g, rfl, hg, c0, -⟩ := ea_at hfl h0
  obtain ⟨g', hg', hg2, c1, -⟩ := ea_at hfl h1
  injection hg' with hg'
  injection hg' with hg' _ _
  subst hg'
  have d0 := c0 0 _ rfl
  have d1 := c1 0 _ rfl
  have d2 := c1 3 _ rfl
  rw [e0, ha] at d0
  rw [e1, hb] at d1
  rw [e1, hb'] at d2
  simp only [Nat.zero_mul, Nat.zero_add, Nat.add_zero, Nat.one_mul, Nat.reduceAdd] at d0 d1 d2
  rw [hlen]
  have HU := Lib.hid hu
  clear hfl hmap hlen h0 h1 e0 e1 c0 c1 ha hb hb' a0 a1 hu
  go_wp2
  go_ret
  exact ⟨rfl, ((Up.refl w).alloc _).trans HU.out⟩
end Go.Proofs.YtfambgigdhkiaaaDoor
