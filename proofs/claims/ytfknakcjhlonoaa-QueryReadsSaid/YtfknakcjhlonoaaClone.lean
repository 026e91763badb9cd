/-
  Bytes that a slice value reads as, with where they lie; bytes.Clone, the reference's Copy and Cut in these words. No condition but the slice's own reach.
-/
import Derived.Test.YtfknakcjhlonoaaBytes
import Derived.Test.YtfknakcjhlonoaaKeep
import Derived.Deep.RegionHeld3
namespace Go.Proofs.Ytfknakcjhlonoaa
open Go.RowKit
set_option linter.unusedVariables false
set_option linter.unusedSimpArgs false

def BL (l : List Int) : Prop := ∀ x ∈ l, 0 ≤ x ∧ x ≤ 255
theorem BL.drop {l : List Int} (h : BL l) (k : Nat) : BL (l.drop k) := fun x hx => h x (List.mem_of_mem_drop hx)
theorem BL.take {l : List Int} (h : BL l) (k : Nat) : BL (l.take k) := fun x hx => h x (List.mem_of_mem_take hx)
theorem BL.app {l m : List Int} (h : BL l) (k : BL m) : BL (l ++ m) := fun x hx => (List.mem_append.1 hx).elim (h x) (k x)
theorem BL.nil : BL [] := fun _ h => by cases h
theorem BL.cons {x : Int} {l : List Int} (hx : 0 ≤ x ∧ x ≤ 255) (h : BL l) : BL (x :: l) := fun y hy => by
  rcases List.mem_cons.1 hy with rfl | hy
  · exact hx
  · exact h y hy
/-- the slice A, n, c reads as the bytes l; its block, if there is one, is at or above B -/
structure Sl (B : Nat) (w : World) (A : Option Addr) (n c : Nat) (l : List Int) : Prop where
  rd : Reads w w.heap.size 1 A n (bs l)
  cap : n ≤ c
  mx : c ≤ maxLen
  at_ : ∀ p, A = some p → B ≤ p.block
  small : n ≤ 65536
  bytes : BL l
  tag : ∀ p, A = some p → ∃ cur q, w.heap[p.block]? = some (.cells cur 5 q)
section
variable {B B' : Nat} {w w' : World} {A : Option Addr} {n c : Nat} {l : List Int}
theorem Sl.len (h : Sl B w A n c l) : l.length = n := by simpa [bs] using h.rd.1
theorem Sl.none_ : Sl B w none 0 0 [] := ⟨Reads.none_, Nat.le_refl _, by simp [maxLen], fun _ h => (by cases h), by omega, BL.nil, fun _ h => (by cases h)⟩
theorem Sl.lt (h : Sl B w A n c l) {p : Addr} (hp : A = some p) : p.block < w.heap.size := by
  obtain ⟨cur, q, e⟩ := h.tag p hp
  exact (Array.getElem?_eq_some_iff.1 e).1
theorem Sl.up (h : Sl B w A n c l) (hu : Up w w') : Sl B w' A n c l := ⟨h.rd.up hu, h.cap, h.mx, h.at_, h.small, h.bytes, fun p hp => by rw [hu.block _ (h.lt hp)]; exact h.tag p hp⟩
theorem Sl.low (h : Sl B w A n c l) (hB : B' ≤ B) : Sl B' w A n c l := ⟨h.rd, h.cap, h.mx, fun p hp => Nat.le_trans hB (h.at_ p hp), h.small, h.bytes, h.tag⟩
theorem Sl.keep {E : Nat → Prop} (h : Sl B w A n c l) (hk : Keep E w w') (hE : ∀ k, E k → k < B) : Sl B w' A n c l :=
  ⟨h.rd.kept hk (fun p hp e => by have := hE _ e; have := h.at_ p hp; omega), h.cap, h.mx, h.at_, h.small, h.bytes, fun p hp => by rw [hk.block _ (h.lt hp) (fun e => by have := hE _ e; have := h.at_ p hp; omega)]; exact h.tag p hp⟩
theorem Sl.of_own (h : w.ownsRow B 5 1 (.slice A n c) n (bs l)) (h1 : n ≤ c) (h2 : c ≤ maxLen) (h3 : n ≤ 65536) (h4 : BL l) : Sl B w A n c l :=
  ⟨Reads.of_own h, h1, h2, fun p hp => by
    subst hp
    rcases h.2 with ⟨e1, _⟩ | ⟨g, cap, cur, e1, h6, _⟩
    · cases e1
    · injection e1 with e1 _ _
      injection e1 with e1
      subst e1
      exact h6, h3, h4, fun p hp => by
    subst hp
    rcases h.2 with ⟨e1, _⟩ | ⟨g, cap, cur, e1, h6, h7, _⟩
    · cases e1
    · injection e1 with e1 _ _
      injection e1 with e1
      subst e1
      exact ⟨cur, _, h7⟩⟩
theorem Sl.form (h : Sl B w A n c l) (hn : 0 < n) : ∃ b off, A = some ⟨b, off, none⟩ ∧ b < w.heap.size := h.rd.form hn
theorem Sl.cut (h : Sl B w A n c l) {k : Nat} (hk : k ≤ n) : Sl B w (if c = k then A else A.map (·.add k)) (n - k) (c - k) (l.drop k) := by
  have := h.rd.cut (k := k) hk h.cap
  rw [Nat.mul_one] at this
  have hcap := h.cap
  have hmx := h.mx
  have hsm := h.small
  refine ⟨by rwa [bs, ← List.map_drop] at this, by omega, by omega, fun p hp => ?_, by omega, h.bytes.drop k, fun p hp => ?_⟩
  · split at hp
    · exact h.at_ p hp
    · cases A with
      | none => cases hp
      | some a =>
        simp only [Option.map_some, Option.some.injEq] at hp
        subst hp
        rw [block_of_add]
        exact h.at_ a rfl
  · split at hp
    · exact h.tag p hp
    · cases A with
      | none => cases hp
      | some a =>
        simp only [Option.map_some, Option.some.injEq] at hp
        subst hp
        rw [block_of_add]
        exact h.tag a rfl
theorem Sl.take (h : Sl B w A n c l) {k : Nat} (hk : k ≤ n) : Sl B w A k c (l.take k) := by
  have := h.rd.take (k := k) hk
  rw [Nat.mul_one] at this
  have hcap := h.cap
  have hsm := h.small
  exact ⟨by rwa [bs, ← List.map_take] at this, by omega, h.mx, h.at_, by omega, h.bytes.take k, h.tag⟩
/-- the byte at i -/
theorem Sl.cell {b off : Nat} (h : Sl B w (some ⟨b, off, none⟩) n c l) {i : Nat} (hi : i < n) : w.cell? ⟨b, off + i, none⟩ = some (.int .u8 (l.getD i 0)) := by
  have hl := h.len
  obtain ⟨hb, u, hu, hc⟩ := h.rd.at_ (j := i) (by omega)
  rw [hc]
  simp only [bs, List.getElem?_map] at hu
  rw [List.getD_eq_getElem?_getD]
  cases hq : l[i]? with
  | none => rw [hq] at hu; cases hu
  | some x => rw [hq] at hu; simpa using hu.symm
theorem Sl.byte (h : Sl B w A n c l) {i : Nat} : 0 ≤ l.getD i 0 ∧ l.getD i 0 ≤ 255 := by
  rw [List.getD_eq_getElem?_getD]
  cases hq : l[i]? with
  | none => simp
  | some x => exact h.bytes x (List.mem_of_getElem? hq)
end
set_option maxHeartbeats 400000 in
theorem clone_any (A : Option Addr) (n c : Nat) (l : List Int) (w : World) (hr : Reads w w.heap.size 1 A n (bs l)) (hn : n ≤ 140737488355328) :
    Calls Try.prog 41 #[.slice A n c] w fun e w' => ∃ A' c', e = .returned (.slice A' n c') ∧ w'.ownsRow w.heap.size 5 1 (.slice A' n c') n (bs l) ∧ n ≤ c' ∧ c' ≤ maxLen ∧ Up w w' := by
  obtain ⟨i0, hi, hz0, hz1, hz2⟩ := info_parts info_u8
  cases A with
  | none =>
    have h0 : n = 0 := by
      rcases Nat.eq_zero_or_pos n with h0 | h0
      · exact h0
      · obtain ⟨_, _, h, _⟩ := hr.2 h0
        cases h
    subst h0
    have hl : bs l = [] := List.eq_nil_of_length_eq_zero (by simpa using hr.1)
    rw [hl]
    have hnil := Lib.run_eql_slice_nil (P := Try.prog) w 22 5 none 0 c 0 0 Try.underlying22
    go_enter Try.func41, Try.ntmps41
    go_wp2
    go_ret
    exact ⟨none, 0, rfl, World.ownsRow_nil _ _ _ _, Nat.le_refl _, by simp [maxLen], Up.refl _⟩
  | some ad =>
    have hnil := Lib.run_eql_slice_nil (P := Try.prog) w 22 5 (some ad) n c 0 0 Try.underlying22
    go_enter Try.func41, Try.ntmps41
    go_wp2_with (at_builtin; refine wpList_app _ rfl (.tmp 5) (.tmp 6) 22 rfl w.heap.size 5 i0 _ 1 1 Try.underlying22 hi hz0 hz1 hz2 rfl (by decide) _ 0 0 [] rfl (World.ownsRow_lit w #[] 0 (Nat.le_refl _) (by simp [maxLen]) rfl) w.heap.size (some ad) n c (bs l) rfl (hr.alloc (Nat.le_refl _) _) (one_u8 l) (by simp [maxLen]; omega) (by omega) (by simp) ?_; intro A1 c1 w1 hown1 hg1 hle1 hmx1 hbl1; simp only [Nat.zero_add, List.nil_append] at hown1 hle1)
    go_ret
    exact ⟨A1, c1, rfl, hown1, hle1, hmx1, ((Up.refl _).alloc _).past hbl1⟩
/-- Clone, in these words -/
theorem clone_sl {B : Nat} {A : Option Addr} {n c : Nat} {l : List Int} {w : World} (h : Sl B w A n c l) :
    Calls Try.prog 41 #[.slice A n c] w fun e w' => ∃ A' c', e = .returned (.slice A' n c') ∧ Sl w.heap.size w' A' n c' l ∧ Up w w' := by
  refine (clone_any A n c l w h.rd (by have := h.small; omega)).mono ?_
  rintro e w' ⟨A', c', rfl, h1, h2, h3, h4⟩
  exact ⟨A', c', rfl, Sl.of_own h1 h2 h3 h.small h.bytes, h4⟩
theorem copy_sl {B : Nat} {A : Option Addr} {n c : Nat} {l : List Int} {w : World} (h : Sl B w A n c l) :
    Calls Try.prog 16 #[.slice A n c] w fun e w' => ∃ A' c', e = .returned (.slice A' n c') ∧ Sl w.heap.size w' A' n c' l ∧ Up w w' := by
  refine (copy_any A n c l w h.rd (by have := h.small; omega)).mono ?_
  rintro e w' ⟨A', c', rfl, h1, h2, h3, h4⟩
  exact ⟨A', c', rfl, Sl.of_own h1 h2 h3 h.small h.bytes, h4⟩
theorem same_sl {B B' : Nat} {A A' : Option Addr} {n n' c c' : Nat} {l l' : List Int} {w : World} (h : Sl B w A n c l) (h' : Sl B' w A' n' c' l') :
    Calls Try.prog 12 #[.slice A n c, .slice A' n' c'] w fun e w' => e = .returned (.bool (decide (l = l'))) ∧ w = w' :=
  same_any A A' n n' c c' w.heap.size w.heap.size l l' w h.rd h'.rd h.bytes h'.bytes
end Go.Proofs.Ytfknakcjhlonoaa
