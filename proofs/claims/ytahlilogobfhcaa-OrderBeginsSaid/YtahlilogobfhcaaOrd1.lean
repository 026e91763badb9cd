/-
  order's scanner: how it lies; fail, take. No condition but the slice's own reach.
-/
import Derived.Test.YtahlilogobfhcaaClone
import Derived.Test.YtahlilogobfhcaaMix
namespace Go.Proofs.Ytahlilogobfhcaa
open Go.RowKit
set_option linter.unusedVariables false
set_option linter.unusedSimpArgs false

theorem Sl.past {E : Nat → Prop} {B : Nat} {w w' : World} {A : Option Addr} {n c : Nat} {l : List Int} (h : Sl B w A n c l) (hk : Keep E w w') (hE : ∀ p, A = some p → ¬ E p.block) : Sl B w' A n c l :=
  ⟨h.rd.kept hk hE, h.cap, h.mx, h.at_, h.small, h.bytes, fun p hp => by rw [hk.block _ (h.lt hp) (hE p hp)]; exact h.tag p hp⟩
theorem Sl.front {B : Nat} {w : World} {A : Option Addr} {n c : Nat} {l : List Int} (h : Sl B w A n c l) {k : Nat} (hk : k ≤ n) : Sl B w A k k (l.take k) := by
  have h1 := h.take hk
  exact ⟨h1.rd, Nat.le_refl _, by have := h.cap; have := h.mx; omega, h1.at_, h1.small, h1.bytes, h1.tag⟩
/-- a scanner in a block: what is left, and its error -/
structure Sc (W : World) (b : Nat) (A : Option Addr) (n c : Nat) (l : List Int) (e : Int) : Prop where
  sl : Sl 0 W A n c l
  lo : ∀ p, A = some p → p.block < b
  c0 : W.cell? ⟨b, 0, none⟩ = some (.slice A n c)
  c1 : W.cell? ⟨b, 1, none⟩ = some (.int .i64 e)
  f0 : W.frozen? ⟨b, 0, none⟩ = false
  f1 : W.frozen? ⟨b, 1, none⟩ = false
section
variable {W W' : World} {b : Nat} {A : Option Addr} {n c : Nat} {l : List Int} {e : Int}
theorem Sc.ne (h : Sc W b A n c l e) : ∀ p, A = some p → p.block ≠ b := fun p hp => Nat.ne_of_lt (h.lo p hp)
theorem Sc.lt (h : Sc W b A n c l e) : b < W.heap.size := cell_lt h.c0
theorem Sc.up (h : Sc W b A n c l e) (hu : Up W W') : Sc W' b A n c l e := by
  have hb := hu.at_ b h.lt
  exact ⟨h.sl.up hu, h.lo, (hb.1 0).trans h.c0, (hb.1 1).trans h.c1, (hb.2 0).trans h.f0, (hb.2 1).trans h.f1⟩
theorem Sc.far {E : Nat → Prop} (h : Sc W b A n c l e) (hk : Keep E W W') (hE : ∀ k, E k → b < k) : Sc W' b A n c l e := by
  have hb := hk.at_ b h.lt (fun e => by have := hE _ e; omega)
  exact ⟨h.sl.past hk (fun p hp e => by have := hE _ e; have := h.lo p hp; omega), h.lo, (hb.1 0).trans h.c0, (hb.1 1).trans h.c1, (hb.2 0).trans h.f0, (hb.2 1).trans h.f1⟩
theorem Sc.setE (h : Sc W b A n c l e) (x : Int) : Sc (W.setCell ⟨b, 1, none⟩ (.int .i64 x)) b A n c l x := by
  have hk : Keep (fun k => k = b) W (W.setCell ⟨b, 1, none⟩ (.int .i64 x)) := (Keep.refl (fun k => k = b) W).setCell (p := ⟨b, 1, none⟩) (.inl rfl) _
  exact ⟨h.sl.past hk h.ne, h.lo, (World.cell?_setCell_other _ _ _ _ (by simp)).trans h.c0, World.cell?_setCell_same (h := h.c1) .., by simpa [go_sem] using h.f0, by simpa [go_sem] using h.f1⟩
theorem Sc.setP (h : Sc W b A n c l e) {A' : Option Addr} {n' c' : Nat} {l' : List Int} (hs : Sl 0 W A' n' c' l') (hne : ∀ p, A' = some p → p.block < b) : Sc (W.setCell ⟨b, 0, none⟩ (.slice A' n' c')) b A' n' c' l' e := by
  have hk : Keep (fun k => k = b) W (W.setCell ⟨b, 0, none⟩ (.slice A' n' c')) := (Keep.refl (fun k => k = b) W).setCell (p := ⟨b, 0, none⟩) (.inl rfl) _
  exact ⟨hs.past hk (fun p hp => Nat.ne_of_lt (hne p hp)), hne, World.cell?_setCell_same (h := h.c0) .., (World.cell?_setCell_other _ _ _ _ (by simp)).trans h.c1, by simpa [go_sem] using h.f0, by simpa [go_sem] using h.f1⟩
theorem Sc.cutNe (h : Sc W b A n c l e) (k : Nat) : ∀ p, (if c = k then A else A.map (·.add k)) = some p → p.block < b := by
  intro p hp
  split at hp
  · exact h.lo p hp
  · cases A with
    | none => cases hp
    | some a =>
      simp only [Option.map_some, Option.some.injEq] at hp
      subst hp
      rw [block_of_add]
      exact h.lo a rfl
end
def errs (e x : Int) : Int := if e = 0 then x else e
theorem sfail_is {w : World} {b : Nat} {A : Option Addr} {n c : Nat} {l : List Int} {e0 : Int} (x : Int) (h : Sc w b A n c l e0) :
    Calls Try.prog 24 #[.pointer (some ⟨b, 0, none⟩), .int .i64 x] w fun e w' => e = .returned (.tuple #[]) ∧ Sc w' b A n c l (errs e0 x) ∧ Near b w w' := by
  have HS := Lib.hid h
  obtain ⟨_, _, _, c1, _, f1⟩ := h
  by_cases h0 : e0 = 0
  · subst h0
    go_enter Try.func24, Try.ntmps24
    go_wp2
    go_end0
    exact ⟨rfl, HS.out.setE x, (Keep.refl (fun k => k = b) w).setCell (p := ⟨b, 1, none⟩) (.inl rfl) _⟩
  · have h1 : (e0 == 0) = false := by simpa using h0
    have he : errs e0 x = e0 := by unfold errs; rw [if_neg h0]
    rw [he]
    clear h0 he
    go_enter Try.func24, Try.ntmps24
    go_wp2
    go_end0
    exact ⟨rfl, HS.out, Keep.refl _ w⟩
theorem near_set (w : World) (b o : Nat) (v : Value) : Near b w (w.setCell ⟨b, o, none⟩ v) := (Keep.refl (fun k => k = b) w).setCell (p := ⟨b, o, none⟩) (.inl rfl) v
set_option maxHeartbeats 800000 in
theorem take_ok {w : World} {b : Nat} {A : Option Addr} {n c : Nat} {l : List Int} {e0 : Int} {k : Nat} (h : Sc w b A n c l e0) (h0 : 0 < k) (hk : k ≤ n) :
    Calls Try.prog 18 #[.pointer (some ⟨b, 0, none⟩), .int .i64 (k : Int)] w fun e w' => e = .returned (.slice A k k) ∧ (∃ A', Sc w' b A' (n - k) (c - k) (l.drop k) e0) ∧ Near b w w' := by
  have HS := Lib.hid h
  have HC := Lib.hid (h.setP (h.sl.cut hk) (h.cutNe k))
  obtain ⟨g, off, rfl, zg⟩ := h.sl.form (by omega)
  have hcap := h.sl.cap
  have hsm := h.sl.small
  have hmx := h.sl.mx
  obtain ⟨_, _, c0, _, f0, _⟩ := h
  have zb := cell_lt c0
  simp only at zb
  go_enter Try.func18, Try.ntmps18
  by_cases hck : c = k
  · subst hck
    obtain rfl : n = c := by omega
    rw [if_pos rfl, Nat.sub_self] at HC
    rw [Nat.sub_self]
    go_wp2
    go_ret
    exact ⟨rfl, ⟨_, HC.out⟩, near_set _ _ _ _⟩
  · have hlt : k < c := by omega
    rw [if_neg hck, show Option.map (fun x : Addr => x.add k) (some ⟨g, off, none⟩) = some ⟨g, off + k, none⟩ by simp [Addr.add]; omega] at HC
    go_wp2
    all_goals go_ret
    all_goals exact ⟨rfl, ⟨_, HC.out⟩, near_set _ _ _ _⟩
end Go.Proofs.Ytahlilogobfhcaa
