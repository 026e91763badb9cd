/-
What a call leaves of memory where it may write to some blocks. No condition.
Bytes that a slice value reads as, with where they lie; bytes.Clone, the reference's Copy and Cut in these words. No condition but the slice's own reach.
Things in memory with blocks of their own: a struct's block known whole, rows that may grow, what leaves them alone. No condition.
The six-bit codes: what addr.zone and addr.Six compute, for every number. No condition.
-/
import Derived.Test.YtamfjgioajmnpaaGreatDoorJa1
import Derived.Deep.RegionHeld3
namespace Go.Proofs.YtamfjgioajmnpaaGreatDoor
open Go.RowKit
set_option linter.unusedVariables false

/-- all blocks that were there are as they were, but those of E -/
structure Keep (E : Nat → Prop) (w w' : World) : Prop where
  os : w'.os = w.os
  tape : w'.tape = w.tape
  output : w'.output = w.output
  size : w.heap.size ≤ w'.heap.size
  block : ∀ k, k < w.heap.size → ¬ E k → w'.heap[k]? = w.heap[k]?
section
variable {E F : Nat → Prop} {a b c : World}
theorem Keep.refl (E : Nat → Prop) (w : World) : Keep E w w := ⟨rfl, rfl, rfl, Nat.le_refl _, fun _ _ _ => rfl⟩
theorem Keep.trans (h : Keep E a b) (k : Keep E b c) : Keep E a c :=
  ⟨k.os.trans h.os, k.tape.trans h.tape, k.output.trans h.output, Nat.le_trans h.size k.size, fun i hi he => (k.block i (by have := h.size; omega) he).trans (h.block i hi he)⟩
theorem Keep.mono (h : Keep E a b) (he : ∀ k, E k → F k) : Keep F a b := ⟨h.os, h.tape, h.output, h.size, fun i hi hn => h.block i hi fun hE => hn (he i hE)⟩
theorem Keep.of_up (h : Up a b) : Keep E a b := ⟨h.os, h.tape, h.output, h.size, fun i hi _ => h.block i hi⟩
theorem Keep.drew (h : Keep E a b) : Keep E a b.drew := ⟨h.os, h.tape, h.output, h.size, h.block⟩
theorem Keep.drewN (h : Keep E a b) (n : Nat) : Keep E a (b.drewN n) := ⟨h.os, h.tape, h.output, h.size, h.block⟩
theorem Keep.alloc (h : Keep E a b) (o : Obj) : Keep E a (b.alloc o) := h.trans (Keep.of_up ((Up.refl b).alloc o))
theorem Keep.setCell (h : Keep E a b) {p : Addr} (hp : E p.block ∨ a.heap.size ≤ p.block) (u : Value) : Keep E a (b.setCell p u) :=
  ⟨h.os, h.tape, h.output, by simp [World.setCell]; exact h.size, fun i hi hn => (Below.heap_setCell b p u i (by
    intro e; subst e
    rcases hp with hp | hp
    · exact hn hp
    · omega)).trans (h.block i hi hn)⟩
theorem Keep.far (h : Keep E a b) (k : Below a.heap.size b c) : Keep E a c :=
  ⟨k.os.trans h.os, k.tape.trans h.tape, k.output.trans h.output, Nat.le_trans h.size k.size, fun i hi he => (k.block i hi).trans (h.block i hi he)⟩
theorem Keep.up (h : Keep E a b) (hu : Up b c) : Keep E a c := h.trans (Keep.of_up hu)
theorem Keep.at_ (h : Keep E a b) (n : Nat) (hn : n < a.heap.size) (he : ¬ E n) : (∀ o, b.cell? ⟨n, o, none⟩ = a.cell? ⟨n, o, none⟩) ∧ (∀ o, b.frozen? ⟨n, o, none⟩ = a.frozen? ⟨n, o, none⟩) :=
  ⟨fun o => World.cell?_of_block (h.block n hn he), fun o => World.frozen?_of_block (h.block n hn he)⟩
/-- what a call's own blocks suffer is nothing to what was there before -/
theorem Up.keep (h : Up a b) (k : Keep E b c) (he : ∀ i, E i → a.heap.size ≤ i) : Up a c :=
  ⟨k.os.trans h.os, k.tape.trans h.tape, k.output.trans h.output, Nat.le_trans h.size k.size, fun i hi => (k.block i (by have := h.size; omega) (fun hE => by have := he i hE; omega)).trans (h.block i hi)⟩
theorem Reads.kept {size n : Nat} {A : Option Addr} {xs : List Value} (h : Reads a a.heap.size size A n xs) (hk : Keep E a b) (he : ∀ p, A = some p → ¬ E p.block) : Reads b b.heap.size size A n xs := by
  refine ⟨h.1, fun hn => ?_⟩
  obtain ⟨g, off, e, hb, hc⟩ := h.2 hn
  subst e
  have hg := hk.at_ g hb (he _ rfl)
  exact ⟨g, off, rfl, by have := hk.size; omega, fun j u hu => (hg.1 _).trans (hc j u hu)⟩
end
/-- as before, but in one block -/
def Near (b : Nat) (w w' : World) : Prop := Keep (fun k => k = b) w w'
theorem Near.set (b x : Nat) (w : World) (v : Value) : Near b w (w.setCell ⟨b, x, none⟩ v).drew := ((Keep.refl (fun k => k = b) w).setCell (p := ⟨b, x, none⟩) (.inl rfl) v).drew
theorem Near.up {b : Nat} {w a c : World} (h : Near b w a) (hu : Up a c) : Near b w c := Keep.up h hu
theorem Near.refl (b : Nat) (w : World) : Near b w w := Keep.refl _ _
theorem Near.trans {n : Nat} {a b c : World} (h : Near n a b) (k : Near n b c) : Near n a c := Keep.trans h k
theorem Near.at_ {b : Nat} {w a : World} (h : Near b w a) (n : Nat) (hn : n < w.heap.size) (hb : n ≠ b) : (∀ o, a.cell? ⟨n, o, none⟩ = w.cell? ⟨n, o, none⟩) ∧ (∀ o, a.frozen? ⟨n, o, none⟩ = w.frozen? ⟨n, o, none⟩) := Keep.at_ h n hn hb
theorem Near.size {b : Nat} {w a : World} (h : Near b w a) : w.heap.size ≤ a.heap.size := Keep.size h
end Go.Proofs.YtamfjgioajmnpaaGreatDoor
namespace Go.Proofs.YtamfjgioajmnpaaGreatDoor
open Go.RowKit
set_option linter.unusedVariables false
set_option linter.unusedSimpArgs false

def BL (l : List Int) : Prop := ∀ x ∈ l, 0 ≤ x ∧ x ≤ 255
theorem BL.drop {l : List Int} (h : BL l) (k : Nat) : BL (l.drop k) := fun x hx => h x (List.mem_of_mem_drop hx)
theorem BL.take {l : List Int} (h : BL l) (k : Nat) : BL (l.take k) := fun x hx => h x (List.mem_of_mem_take hx)
theorem BL.app {l m : List Int} (h : BL l) (k : BL m) : BL (l ++ m) := fun x hx => (List.mem_append.1 hx).elim (h x) (k x)
theorem BL.nil : BL [] := fun _ h => by cases h
theorem BL.cons {x : Int} {l : List Int} (hx : 0 ≤ x ∧ x ≤ 255) (h : BL l) : BL (x :: l) := fun y hy => by
  rcases List.mem_cons.1 hy with rfl | hy
  · exact hx
  · exact h y hy
/-- the slice A, n, c reads as the bytes l; its block, if there is one, is at or above B -/
structure Sl (B : Nat) (w : World) (A : Option Addr) (n c : Nat) (l : List Int) : Prop where
  rd : Reads w w.heap.size 1 A n (bs l)
  cap : n ≤ c
  mx : c ≤ maxLen
  at_ : ∀ p, A = some p → B ≤ p.block
  small : n ≤ 65536
  bytes : BL l
  tag : ∀ p, A = some p → ∃ cur q, w.heap[p.block]? = some (.cells cur 5 q)
section
variable {B B' : Nat} {w w' : World} {A : Option Addr} {n c : Nat} {l : List Int}
theorem Sl.len (h : Sl B w A n c l) : l.length = n := by simpa [bs] using h.rd.1
theorem Sl.none_ : Sl B w none 0 0 [] := ⟨Reads.none_, Nat.le_refl _, by simp [maxLen], fun _ h => (by cases h), by omega, BL.nil, fun _ h => (by cases h)⟩
theorem Sl.lt (h : Sl B w A n c l) {p : Addr} (hp : A = some p) : p.block < w.heap.size := by
  obtain ⟨cur, q, e⟩ := h.tag p hp
  exact (Array.getElem?_eq_some_iff.1 e).1
theorem Sl.up (h : Sl B w A n c l) (hu : Up w w') : Sl B w' A n c l := ⟨h.rd.up hu, h.cap, h.mx, h.at_, h.small, h.bytes, fun p hp => by rw [hu.block _ (h.lt hp)]; exact h.tag p hp⟩
theorem Sl.low (h : Sl B w A n c l) (hB : B' ≤ B) : Sl B' w A n c l := ⟨h.rd, h.cap, h.mx, fun p hp => Nat.le_trans hB (h.at_ p hp), h.small, h.bytes, h.tag⟩
theorem Sl.of_own (h : w.ownsRow B 5 1 (.slice A n c) n (bs l)) (h1 : n ≤ c) (h2 : c ≤ maxLen) (h3 : n ≤ 65536) (h4 : BL l) : Sl B w A n c l :=
  ⟨Reads.of_own h, h1, h2, fun p hp => by
    subst hp
    rcases h.2 with ⟨e1, _⟩ | ⟨g, cap, cur, e1, h6, _⟩
    · cases e1
    · injection e1 with e1 _ _
      injection e1 with e1
      subst e1
      exact h6, h3, h4, fun p hp => by
    subst hp
    rcases h.2 with ⟨e1, _⟩ | ⟨g, cap, cur, e1, h6, h7, _⟩
    · cases e1
    · injection e1 with e1 _ _
      injection e1 with e1
      subst e1
      exact ⟨cur, _, h7⟩⟩
theorem Sl.form (h : Sl B w A n c l) (hn : 0 < n) : ∃ b off, A = some ⟨b, off, none⟩ ∧ b < w.heap.size := h.rd.form hn
theorem Sl.cut (h : Sl B w A n c l) {k : Nat} (hk : k ≤ n) : Sl B w (if c = k then A else A.map (·.add k)) (n - k) (c - k) (l.drop k) := by
  have := h.rd.cut (k := k) hk h.cap
  rw [Nat.mul_one] at this
  have hcap := h.cap
  have hmx := h.mx
  have hsm := h.small
  refine ⟨by rwa [bs, ← List.map_drop] at this, by omega, by omega, fun p hp => ?_, by omega, h.bytes.drop k, fun p hp => ?_⟩
  · split at hp
    · exact h.at_ p hp
    · cases A with
      | none => cases hp
      | some a =>
        simp only [Option.map_some, Option.some.injEq] at hp
        subst hp
        rw [block_of_add]
        exact h.at_ a rfl
  · split at hp
    · exact h.tag p hp
    · cases A with
      | none => cases hp
      | some a =>
        simp only [Option.map_some, Option.some.injEq] at hp
        subst hp
        rw [block_of_add]
        exact h.tag a rfl
theorem Sl.take (h : Sl B w A n c l) {k : Nat} (hk : k ≤ n) : Sl B w A k c (l.take k) := by
  have := h.rd.take (k := k) hk
  rw [Nat.mul_one] at this
  have hcap := h.cap
  have hsm := h.small
  exact ⟨by rwa [bs, ← List.map_take] at this, by omega, h.mx, h.at_, by omega, h.bytes.take k, h.tag⟩
/-- the byte at i -/
theorem Sl.cell {b off : Nat} (h : Sl B w (some ⟨b, off, none⟩) n c l) {i : Nat} (hi : i < n) : w.cell? ⟨b, off + i, none⟩ = some (.int .u8 (l.getD i 0)) := by
  have hl := h.len
  obtain ⟨hb, u, hu, hc⟩ := h.rd.at_ (j := i) (by omega)
  rw [hc]
  simp only [bs, List.getElem?_map] at hu
  rw [List.getD_eq_getElem?_getD]
  cases hq : l[i]? with
  | none => rw [hq] at hu; cases hu
  | some x => rw [hq] at hu; simpa using hu.symm
theorem Sl.byte (h : Sl B w A n c l) {i : Nat} : 0 ≤ l.getD i 0 ∧ l.getD i 0 ≤ 255 := by
  rw [List.getD_eq_getElem?_getD]
  cases hq : l[i]? with
  | none => simp
  | some x => exact h.bytes x (List.mem_of_getElem? hq)
end
set_option maxHeartbeats 400000 in
theorem clone_any (A : Option Addr) (n c : Nat) (l : List Int) (w : World) (hr : Reads w w.heap.size 1 A n (bs l)) (hn : n ≤ 140737488355328) :
    Calls Tryz.prog 132 #[.slice A n c] w fun e w' => ∃ A' c', e = .returned (.slice A' n c') ∧ w'.ownsRow w.heap.size 5 1 (.slice A' n c') n (bs l) ∧ n ≤ c' ∧ c' ≤ maxLen ∧ Up w w' := by
  obtain ⟨i0, hi, hz0, hz1, hz2⟩ := info_parts info_u8
  cases A with
  | none =>
    have h0 : n = 0 := by
      rcases Nat.eq_zero_or_pos n with h0 | h0
      · exact h0
      · obtain ⟨_, _, h, _⟩ := hr.2 h0
        cases h
    subst h0
    have hl : bs l = [] := List.eq_nil_of_length_eq_zero (by simpa using hr.1)
    rw [hl]
    have hnil := Lib.run_eql_slice_nil (P := Tryz.prog) w 30 5 none 0 c 0 0 Tryz.underlying30
    go_enter Tryz.func132, Tryz.ntmps132
    go_wp2
    go_ret
    exact ⟨none, 0, rfl, World.ownsRow_nil _ _ _ _, Nat.le_refl _, by simp [maxLen], Up.refl _⟩
  | some ad =>
    have hnil := Lib.run_eql_slice_nil (P := Tryz.prog) w 30 5 (some ad) n c 0 0 Tryz.underlying30
    go_enter Tryz.func132, Tryz.ntmps132
    go_wp2_with (at_builtin; refine wpList_app _ rfl (.tmp 5) (.tmp 6) 30 rfl w.heap.size 5 i0 _ 1 1 Tryz.underlying30 hi hz0 hz1 hz2 rfl (by decide) _ 0 0 [] rfl (World.ownsRow_lit w #[] 0 (Nat.le_refl _) (by simp [maxLen]) rfl) w.heap.size (some ad) n c (bs l) rfl (hr.alloc (Nat.le_refl _) _) (one_u8 l) (by simp [maxLen]; omega) (by omega) (by simp) ?_; intro A1 c1 w1 hown1 hg1 hle1 hmx1 hbl1; simp only [Nat.zero_add, List.nil_append] at hown1 hle1)
    go_ret
    exact ⟨A1, c1, rfl, hown1, hle1, hmx1, ((Up.refl _).alloc _).past hbl1⟩
/-- Clone, in these words -/
theorem clone_sl {B : Nat} {A : Option Addr} {n c : Nat} {l : List Int} {w : World} (h : Sl B w A n c l) :
    Calls Tryz.prog 132 #[.slice A n c] w fun e w' => ∃ A' c', e = .returned (.slice A' n c') ∧ Sl w.heap.size w' A' n c' l ∧ Up w w' := by
  refine (clone_any A n c l w h.rd (by have := h.small; omega)).mono ?_
  rintro e w' ⟨A', c', rfl, h1, h2, h3, h4⟩
  exact ⟨A', c', rfl, Sl.of_own h1 h2 h3 h.small h.bytes, h4⟩
end Go.Proofs.YtamfjgioajmnpaaGreatDoor
namespace Go.Proofs.YtamfjgioajmnpaaGreatDoor
open Go.RowKit
set_option linter.unusedVariables false
set_option linter.unusedSimpArgs false

/-- the blocks that a call may make its own: those it had, and new ones -/
def Gr (F : Nat → Prop) (w w' : World) : Nat → Prop := fun k => F k ∨ (w.heap.size ≤ k ∧ k < w'.heap.size)
/-- the blocks of F are as they were -/
def Hold (F : Nat → Prop) (w w' : World) : Prop := ∀ k, F k → w'.heap[k]? = w.heap[k]?
section
variable {F G E : Nat → Prop} {a b c w w' : World}
theorem Gr.lt (hF : ∀ k, F k → k < w.heap.size) (hz : w.heap.size ≤ w'.heap.size) : ∀ k, Gr F w w' k → k < w'.heap.size := fun k h => by
  rcases h with h | h
  · have := hF k h; omega
  · exact h.2
theorem Gr.trans (hz : a.heap.size ≤ b.heap.size) (hy : b.heap.size ≤ c.heap.size) : ∀ k, Gr (Gr F a b) b c k → Gr F a c k := fun k h => by
  rcases h with (h | h) | h
  · exact .inl h
  · exact .inr ⟨h.1, by omega⟩
  · exact .inr ⟨by omega, h.2⟩
theorem Keep.gr (h : Keep F a b) (k : Keep (Gr F a b) b c) : Keep F a c :=
  ⟨k.os.trans h.os, k.tape.trans h.tape, k.output.trans h.output, Nat.le_trans h.size k.size, fun i hi he => (k.block i (by have := h.size; omega) (fun hE => by
    rcases hE with hE | hE
    · exact he hE
    · omega)).trans (h.block i hi he)⟩
theorem Keep.grown {row : Option Nat} (hg : a.grownBy b row) (hr : ∀ g, row = some g → F g) : Keep F a b :=
  ⟨hg.os, hg.tape, hg.output, hg.size, fun k hk he => hg.block k hk (fun e => he (hr k e.symm))⟩
end

/-- a struct's block, known whole -/
def St (w : World) (T : TypeId) (b : Nat) (vs : List Value) : Prop := w.heap[b]? = some (.cells vs.toArray T (0, 0))
section
variable {w w' : World} {T T' : TypeId} {b b' : Nat} {vs : List Value}
theorem St.lt (h : St w T b vs) : b < w.heap.size := (Array.getElem?_eq_some_iff.1 h).1
theorem St.cell (h : St w T b vs) (i : Nat) {v : Value} (hv : vs[i]? = some v) : w.cell? ⟨b, i, none⟩ = some v := by
  unfold World.cell?
  simp only
  rw [show w.heap[b]? = _ from h]
  simpa using hv
theorem St.free (h : St w T b vs) (o : Nat) : w.frozen? ⟨b, o, none⟩ = false := by
  unfold World.frozen?
  simp only
  rw [show w.heap[b]? = _ from h]
  simp
theorem St.at_ (h : St w T b vs) (hb : w'.heap[b]? = w.heap[b]?) : St w' T b vs := (show w'.heap[b]? = _ from hb).trans h
theorem St.hold {F : Nat → Prop} (h : St w T b vs) (hb : F b) (hh : Hold F w w') : St w' T b vs := h.at_ (hh b hb)
theorem St.up (h : St w T b vs) (hu : Up w w') : St w' T b vs := h.at_ (hu.block b h.lt)
theorem St.keep {E : Nat → Prop} (h : St w T b vs) (hk : Keep E w w') (he : ¬ E b) : St w' T b vs := h.at_ (hk.block b h.lt he)
theorem St.drew (h : St w T b vs) : St w.drew T b vs := h
theorem St.alloc (h : St w T b vs) (o : Obj) : St (w.alloc o) T b vs := h.up ((Up.refl w).alloc o)
theorem St.new (w : World) (T : TypeId) (vs : List Value) {cs : Array Value} (h : cs = vs.toArray) : St (w.alloc (.cells cs T (0, 0))) T w.heap.size vs := by
  subst h; exact heap_alloc_new w _
theorem St.set (h : St w T b vs) (i : Nat) (v : Value) : St (w.setCell ⟨b, i, none⟩ v) T b (vs.set i v) := by
  unfold St World.setCell
  simp only
  rw [Array.getElem?_modify, if_pos rfl, show w.heap[b]? = _ from h]
  simp
theorem St.other (h : St w T b vs) {p : Addr} (hp : p.block ≠ b) (v : Value) : St (w.setCell p v) T b vs := h.at_ (Below.heap_setCell w p v b (fun e => hp e.symm))
theorem St.grown (h : St w T b vs) {row : Option Nat} (hg : w.grownBy w' row) (hr : row ≠ some b) : St w' T b vs := h.at_ (hg.block b h.lt (fun e => hr e.symm))
end

/-- the block of a slice -/
def blk (A : Option Addr) : Option Nat := A.map (·.block)
theorem blk_some {A : Option Addr} {p : Addr} (h : A = some p) : blk A = some p.block := by subst h; rfl
theorem blk_of {A : Option Addr} {k : Nat} (h : blk A = some k) : ∃ p, A = some p ∧ p.block = k := by
  cases A with
  | none => cases h
  | some p => exact ⟨p, rfl, by simpa [blk] using h⟩
/-- a row that its holder may append to: its block lies in F -/
structure Row (e : TypeId) (k : Nat) (w : World) (F : Nat → Prop) (A : Option Addr) (n c : Nat) (xs : List Value) : Prop where
  own : w.ownsRow 0 e k (.slice A n c) n xs
  le : n ≤ c
  mx : c ≤ maxLen
  in_ : ∀ g, blk A = some g → F g
section
variable {F G : Nat → Prop} {w w' : World} {e : TypeId} {k n c : Nat} {A : Option Addr} {xs : List Value}
theorem Row.none_ : Row e k w F none 0 0 [] := ⟨World.ownsRow_nil _ _ _ _, Nat.le_refl _, by simp [maxLen], fun _ h => by cases h⟩
theorem Row.lt (h : Row e k w F A n c xs) {g : Nat} (hg : blk A = some g) : g < w.heap.size := by
  obtain ⟨p, rfl, rfl⟩ := blk_of hg
  exact (own_bd h.own _ rfl).2
theorem Row.tag (h : Row e k w F A n c xs) {g : Nat} (hg : blk A = some g) : ∃ cur q, w.heap[g]? = some (.cells cur e q) := by
  obtain ⟨p, rfl, rfl⟩ := blk_of hg
  rcases h.own.2 with ⟨e1, _⟩ | ⟨g', cap, cur, e1, _, h4, _⟩
  · cases e1
  · injection e1 with e1 _ _
    injection e1 with e1
    subst e1
    exact ⟨cur, _, h4⟩
theorem Row.at_ (h : Row e k w F A n c xs) (hb : ∀ g, blk A = some g → w'.heap[g]? = w.heap[g]?) : Row e k w' F A n c xs := by
  refine ⟨⟨h.own.1, ?_⟩, h.le, h.mx, h.in_⟩
  rcases h.own.2 with h0 | ⟨g, cap, cur, e1, e2, e3, e4⟩
  · exact .inl h0
  · injection e1 with e1 q1 q2
    subst e1 q2
    exact .inr ⟨g, c, cur, rfl, e2, (hb g rfl).trans e3, e4⟩
theorem Row.hold (h : Row e k w F A n c xs) (hh : Hold F w w') : Row e k w' F A n c xs := h.at_ fun g hg => hh g (h.in_ g hg)
theorem Row.up (h : Row e k w F A n c xs) (hu : Up w w') : Row e k w' F A n c xs := h.at_ fun g hg => hu.block g (h.lt hg)
theorem Row.mono (h : Row e k w F A n c xs) (hF : ∀ g, F g → G g) : Row e k w G A n c xs := ⟨h.own, h.le, h.mx, fun g hg => hF g (h.in_ g hg)⟩
theorem Row.keep {E : Nat → Prop} (h : Row e k w F A n c xs) (hk : Keep E w w') (he : ∀ g, blk A = some g → ¬ E g) : Row e k w' F A n c xs := h.at_ fun g hg => hk.block g (h.lt hg) (he g hg)
theorem Row.other (h : Row e k w F A n c xs) {p : Addr} (hp : blk A ≠ some p.block) (v : Value) : Row e k (w.setCell p v) F A n c xs :=
  h.at_ fun g hg => Below.heap_setCell w p v g (fun e => hp (e ▸ hg))
/-- a store into a block of another kind -/
theorem Row.struct {T : TypeId} {b : Nat} {vs : List Value} (h : Row e k w F A n c xs) (hs : St w T b vs) (hT : T ≠ e) (i : Nat) (v : Value) : Row e k (w.setCell ⟨b, i, none⟩ v) F A n c xs :=
  h.other (p := ⟨b, i, none⟩) (fun hb => by
    obtain ⟨cur, q, h1⟩ := h.tag hb
    rw [show w.heap[b]? = _ from hs] at h1
    injection h1 with h1
    injection h1 with _ h1 _
    exact hT h1) v
theorem Row.ne {T : TypeId} {b : Nat} {vs : List Value} (h : Row e k w F A n c xs) (hs : St w T b vs) (hT : T ≠ e) : blk A ≠ some b := fun hb => by
  obtain ⟨cur, q, h1⟩ := h.tag hb
  rw [show w.heap[b]? = _ from hs] at h1
  injection h1 with h1
  injection h1 with _ h1 _
  exact hT h1
theorem Row.reads (h : Row e k w F A n c xs) : Reads w w.heap.size k A n xs := Reads.of_own h.own
theorem Row.len (h : Row e k w F A n c xs) : xs.length = n * k := h.own.1
end
theorem Row.gr {e : TypeId} {k n c : Nat} {w w' : World} {F G : Nat → Prop} {A : Option Addr} {xs : List Value} (h : Row e k w' G A n c xs) (hG : ∀ g, G g → F g ∨ w.heap.size ≤ g) : Row e k w' (Gr F w w') A n c xs :=
  ⟨h.own, h.le, h.mx, fun g hg => (hG g (h.in_ g hg)).imp id (fun h' => ⟨h', h.lt hg⟩)⟩
/-- two rows of unlike kinds lie apart -/
theorem Row.apart {e e' : TypeId} {k k' n n' c c' : Nat} {w : World} {F G : Nat → Prop} {A A' : Option Addr} {xs ys : List Value} (h : Row e k w F A n c xs) (h' : Row e' k' w G A' n' c' ys) (he : e ≠ e') : ∀ g, blk A = some g → blk A' ≠ some g := fun g h1 h2 => by
  obtain ⟨cur, q, h3⟩ := h.tag h1
  obtain ⟨cur', q', h4⟩ := h'.tag h2
  rw [h3] at h4
  injection h4 with h4
  injection h4 with _ h4 _
  exact he h4

section
variable {P : Program} (w : World)
/-- append onto a row of one's own -/
theorem run_row (t ty e : TypeId) (i : TypeInfo) (z : Value) (size bytes : Nat) (ht : P.underlying t = some (.slice e)) (hi : P.info? e = some i) (hz : i.zero = some z)
    (hsize : i.size = size) (hby : i.bytes = bytes) (hzs : z.cells.size = size) (hsz : 0 < size)
    {F : Nat → Prop} {A : Option Addr} {n c : Nat} {xs : List Value} (hown : Row e size w F A n c xs)
    {B : Nat} {Ax : Option Addr} {m cx : Nat} {news : List Value} (hr : Reads w B size Ax m news) (h1 : ∀ u ∈ news, u.oneCell' = true)
    (h63 : n + m ≤ maxLen) (hbytes : (n + m) * bytes ≤ 140737488355328) :
    ∃ A' c' w', (Builtin.append_ #[t, t] ty #[.slice A n c, .slice Ax m cx]).run P w = .ok (.slice A' (n + m) c') w' ∧ Row e size w' (fun k => F k ∨ k = w.heap.size) A' (n + m) c' (xs ++ news) ∧ w.grownBy w' (blk A) ∧ (blk A' = blk A ∨ blk A' = some w.heap.size) := by
  have hrow : (Value.slice A n c).ownBlock = blk A := by cases A <;> rfl
  rcases Ax with _ | ad
  · have hm : m = 0 := by
      rcases Nat.eq_zero_or_pos m with h0 | h0
      · exact h0
      · obtain ⟨_, _, h, _⟩ := hr.2 h0
        cases h
    subst hm
    have hn : news = [] := List.eq_nil_of_length_eq_zero (by simpa using hr.1)
    subst hn
    refine ⟨A, c, w, ?_, by simpa using (hown.mono (fun g hg => .inl hg)), World.grownBy.refl w _, .inl rfl⟩
    have hle := hown.le
    have ho2 := hown.own
    rcases ho2.2 with ⟨e1, rfl⟩ | ⟨g, cap, cur, e1, _, _, hnc, _⟩
    · injection e1 with e1 _ e2
      subst e1; subst e2
      simp [Builtin.append_, run_underlying ht, sizeOf, typeInfo, hi, Builtin.lenOf, Builtin.firstCells]
    · injection e1 with e1 _ e2
      subst e1; subst e2
      simp [Builtin.append_, run_underlying ht, sizeOf, typeInfo, hi, Builtin.lenOf, Builtin.firstCells, hnc, storeCells]
  · have hcells : ∀ j u, news[j]? = some u → w.cell? (ad.add j) = some u := by
      intro j u hu
      rcases Nat.eq_zero_or_pos m with h0 | h0
      · subst h0
        have hn : news = [] := List.eq_nil_of_length_eq_zero (by simpa using hr.1)
        subst hn
        simp at hu
      · obtain ⟨b, off, h, _, hc⟩ := hr.2 h0
        injection h with h
        subst h
        rw [at_add]
        exact hc j u hu
    obtain ⟨v', w', hrun, h2, h3, _, h5⟩ := run_append_own_at (P := P) w 0 t ty e i z size bytes ht hi hz hsize hby hzs hsz _ n xs hown.own ad m cx news hr.1 hcells h1 h63 hbytes (Nat.zero_le _)
    obtain ⟨A', c', rfl, hle, hmx⟩ := own_form h2
    rw [hrow] at h3 h5
    have hrow' : (Value.slice A' (n + m) c').ownBlock = blk A' := by cases A' <;> rfl
    rw [hrow'] at h5
    refine ⟨A', c', w', hrun, ⟨h2, hle, hmx, fun g hg => ?_⟩, h3, h5⟩
    rcases h5 with h5 | h5
    · exact .inl (hown.in_ g (h5 ▸ hg))
    · rw [hg] at h5; injection h5 with h5; exact .inr h5
variable {w}
theorem wpList_row {ops : Array Oper} {rest : List Oper} {o : Oper} {a : Act} {Q : Exit → Act → World → Prop} (hgd : o.guard = none) {s x : Operand} (t : TypeId)
    (ho : o.op = .call { callee := .builtin .append, args := #[s, x], argTypes := #[t, t] })
    (e : TypeId) (i : TypeInfo) (z : Value) (size bytes : Nat) (ht : P.underlying t = some (.slice e)) (hi : P.info? e = some i) (hz : i.zero = some z)
    (hsize : i.size = size) (hby : i.bytes = bytes) (hzs : z.cells.size = size) (hsz : 0 < size)
    {F : Nat → Prop} {A : Option Addr} {n c : Nat} {xs : List Value} (hs : a.eval s = .slice A n c) (hown : Row e size w F A n c xs)
    {B : Nat} {Ax : Option Addr} {m cx : Nat} {news : List Value} (hx : a.eval x = .slice Ax m cx) (hr : Reads w B size Ax m news) (h1 : ∀ u ∈ news, u.oneCell' = true)
    (h63 : n + m ≤ maxLen) (hbytes : (n + m) * bytes ≤ 140737488355328)
    (h : ∀ A' c' w', Row e size w' (fun k => F k ∨ k = w.heap.size) A' (n + m) c' (xs ++ news) → w.grownBy w' (blk A) → (blk A' = blk A ∨ blk A' = some w.heap.size) →
      wpList P ops Q rest (a.put o.dst (.slice A' (n + m) c')) w') : wpList P ops Q (o :: rest) a w := by
  refine wpList_plain hgd fun K hK => ?_
  obtain ⟨A', c', w', hr', h2, h3, h4⟩ := run_row (P := P) w t o.type e i z size bytes ht hi hz hsize hby hzs hsz hown hr (cx := cx) h1 h63 hbytes
  unfold Oper.wp execOp
  simp only [ho, resolve, invoke, builtin, Sem.run_bind, Sem.run_pure, Result.andThen_ok, List.map_toArray, List.map_cons, List.map_nil, hs, hx, hr']
  exact hK _ _ (h A' c' w' h2 h3 h4)
/-- the same in a region that draws its order -/
theorem step_row {ops : Array Oper} {o : Oper} {a : Act} {K : Act → World → Prop} {Q : Exit → Act → World → Prop} {E : Prop} (hgd : o.guard = none) {s x : Operand} (t : TypeId)
    (ho : o.op = .call { callee := .builtin .append, args := #[s, x], argTypes := #[t, t] })
    (e : TypeId) (i : TypeInfo) (z : Value) (size bytes : Nat) (ht : P.underlying t = some (.slice e)) (hi : P.info? e = some i) (hz : i.zero = some z)
    (hsize : i.size = size) (hby : i.bytes = bytes) (hzs : z.cells.size = size) (hsz : 0 < size)
    {F : Nat → Prop} {A : Option Addr} {n c : Nat} {xs : List Value} (hs : a.eval s = .slice A n c) (hown : Row e size w F A n c xs)
    {B : Nat} {Ax : Option Addr} {m cx : Nat} {news : List Value} (hx : a.eval x = .slice Ax m cx) (hr : Reads w B size Ax m news) (h1 : ∀ u ∈ news, u.oneCell' = true)
    (h63 : n + m ≤ maxLen) (hbytes : (n + m) * bytes ≤ 140737488355328)
    (h : ∀ A' c' w', Row e size w' (fun k => F k ∨ k = w.heap.size) A' (n + m) c' (xs ++ news) → w.grownBy w' (blk A) → (blk A' = blk A ∨ blk A' = some w.heap.size) →
      K (a.put o.dst (.slice A' (n + m) c')) w') : if Region.wanted o (yielded ops a.tmps) = true then Oper.wp P o a w K Q else E := by
  have hw : Region.wanted o (yielded ops a.tmps) = true := by simp [Region.wanted, hgd]
  rw [if_pos hw]
  obtain ⟨A', c', w', hr', h2, h3, h4⟩ := run_row (P := P) w t o.type e i z size bytes ht hi hz hsize hby hzs hsz hown hr (cx := cx) h1 h63 hbytes
  unfold Oper.wp execOp
  simp only [ho, resolve, invoke, builtin, Sem.run_bind, Sem.run_pure, Result.andThen_ok, List.map_toArray, List.map_cons, List.map_nil, hs, hx, hr']
  exact h A' c' w' h2 h3 h4
end
/-- bytes, and one that grows by bytes -/
theorem one_bs (l : List Int) : ∀ u ∈ bs l, u.oneCell' = true := one_u8 l

/-- bytes that are read: in a block of F -/
structure Bt (w : World) (F : Nat → Prop) (A : Option Addr) (n c : Nat) (l : List Int) : Prop where
  rd : Reads w w.heap.size 1 A n (bs l)
  cap : n ≤ c
  mx : c ≤ maxLen
  in_ : ∀ g, blk A = some g → F g
  bytes : BL l
  tag : ∀ g, blk A = some g → ∃ cur q, w.heap[g]? = some (.cells cur 5 q)
section
variable {F G : Nat → Prop} {w w' : World} {A : Option Addr} {n c : Nat} {l : List Int}
theorem Bt.len (h : Bt w F A n c l) : l.length = n := by simpa [bs] using h.rd.1
theorem Bt.none_ : Bt w F none 0 0 [] := ⟨Reads.none_, Nat.le_refl _, by simp [maxLen], fun _ h => (by cases h), BL.nil, fun _ h => (by cases h)⟩
theorem Bt.lt (h : Bt w F A n c l) {g : Nat} (hg : blk A = some g) : g < w.heap.size := by
  obtain ⟨cur, q, e⟩ := h.tag g hg
  exact (Array.getElem?_eq_some_iff.1 e).1
theorem Bt.at_ (h : Bt w F A n c l) (hz : w.heap.size ≤ w'.heap.size) (hb : ∀ g, blk A = some g → w'.heap[g]? = w.heap[g]?) : Bt w' F A n c l :=
  ⟨⟨h.rd.1, fun hn => by
      obtain ⟨b, off, e, hb', hc⟩ := h.rd.2 hn
      exact ⟨b, off, e, Nat.lt_of_lt_of_le hb' hz, fun j u hu => (World.cell?_of_block (show w'.heap[b]? = w.heap[b]? from hb _ (by rw [e]; rfl))).trans (hc j u hu)⟩⟩, h.cap, h.mx, h.in_, h.bytes, fun g hg => by rw [hb g hg]; exact h.tag g hg⟩
theorem Bt.up (h : Bt w F A n c l) (hu : Up w w') : Bt w' F A n c l := h.at_ hu.size fun g hg => hu.block g (h.lt hg)
theorem Bt.keep {E : Nat → Prop} (h : Bt w F A n c l) (hk : Keep E w w') (he : ∀ g, blk A = some g → ¬ E g) : Bt w' F A n c l := h.at_ hk.size fun g hg => hk.block g (h.lt hg) (he g hg)
theorem Bt.mono (h : Bt w F A n c l) (hF : ∀ g, F g → G g) : Bt w G A n c l := ⟨h.rd, h.cap, h.mx, fun g hg => hF g (h.in_ g hg), h.bytes, h.tag⟩
theorem Bt.struct {T : TypeId} {b : Nat} {vs : List Value} (h : Bt w F A n c l) (hs : St w T b vs) (hT : T ≠ 5) (i : Nat) (v : Value) : Bt (w.setCell ⟨b, i, none⟩ v) F A n c l :=
  h.at_ (by simp [World.setCell]) fun g hg => Below.heap_setCell w ⟨b, i, none⟩ v g (fun e => by
    have e' : g = b := e
    obtain ⟨cur, q, h1⟩ := h.tag _ hg
    rw [e', show w.heap[b]? = _ from hs] at h1
    injection h1 with h1
    injection h1 with _ h1 _
    exact hT h1)
theorem Bt.block_ne' {T : TypeId} {b : Nat} {vs : List Value} (h : Bt w F A n c l) (hs : St w T b vs) (hT : T ≠ 5) : blk A ≠ some b := fun hb => by
  obtain ⟨cur, q, h1⟩ := h.tag _ hb
  rw [show w.heap[b]? = _ from hs] at h1
  injection h1 with h1
  injection h1 with _ h1 _
  exact hT h1
theorem Bt.of_row (h : Row 5 1 w F A n c (bs l)) (hb : BL l) : Bt w F A n c l := ⟨h.reads, h.le, h.mx, h.in_, hb, fun g hg => h.tag hg⟩
theorem Bt.sl (h : Bt w F A n c l) (hn : n ≤ 65536) : Sl 0 w A n c l := ⟨h.rd, h.cap, h.mx, fun _ _ => Nat.zero_le _, hn, h.bytes, fun p hp => h.tag _ (blk_some hp)⟩
theorem Bt.of_sl {B : Nat} (h : Sl B w A n c l) (hF : ∀ g, blk A = some g → F g) : Bt w F A n c l := ⟨h.rd, h.cap, h.mx, hF, h.bytes, fun g hg => by
  obtain ⟨p, rfl, rfl⟩ := blk_of hg
  exact h.tag p rfl⟩
end
end Go.Proofs.YtamfjgioajmnpaaGreatDoor
namespace Go.Proofs.YtamfjgioajmnpaaGreatDoor
open Go.RowKit
set_option linter.unusedVariables false

def sixes : List Nat := [0x40, 0xc1, 0xc2, 0xc3, 0xc4, 0xc5, 0xc6, 0xc7, 0xc8, 0xc9, 0x4a, 0x4b, 0x4c, 0x4d, 0x4e, 0x4f,
  0x50, 0xd1, 0xd2, 0xd3, 0xd4, 0xd5, 0xd6, 0xd7, 0xd8, 0xd9, 0x5a, 0x5b, 0x5c, 0x5d, 0x5e, 0x5f,
  0x60, 0x61, 0xe2, 0xe3, 0xe4, 0xe5, 0xe6, 0xe7, 0xe8, 0xe9, 0x6a, 0x6b, 0x6c, 0x6d, 0x6e, 0x6f,
  0xf0, 0xf1, 0xf2, 0xf3, 0xf4, 0xf5, 0xf6, 0xf7, 0xf8, 0xf9, 0x7a, 0x7b, 0x7c, 0x7d, 0x7e, 0x7f]
/-- the code of the lower six bits -/
def sixOf (n : Int) : Int := ((sixes.getD (n % 64).toNat 0 : Nat) : Int)

theorem sixes_le : ∀ k : Fin 64, 0 ≤ ((sixes.getD k.val 0 : Nat) : Int) ∧ ((sixes.getD k.val 0 : Nat) : Int) ≤ 255 := by decide
theorem sixOf_bd (n : Int) : 0 ≤ sixOf n ∧ sixOf n ≤ 255 := sixes_le ⟨(n % 64).toNat, by omega⟩

theorem i64_and63 (n : Int) : bits .and .i64 n 63 = n % 64 := by
  have h127 : (BitVec.ofInt 64 63).toNat = 2 ^ 6 - 1 := by decide
  have key : (BitVec.ofInt 64 n &&& BitVec.ofInt 64 63).toNat = (n % ((2 ^ 64 : Nat) : Int)).toNat % 2 ^ 6 := by
    rw [BitVec.toNat_and, BitVec.toNat_ofInt, h127, Nat.and_two_pow_sub_one_eq_mod]
  show IntKind.i64.wrap ((BitVec.ofInt 64 n &&& BitVec.ofInt 64 63).toNat : Nat) = n % 64
  rw [key, IntKind.wrap_i64]
  omega
theorem i64_and15 (n : Int) : bits .and .i64 n 15 = n % 16 := by
  have h127 : (BitVec.ofInt 64 15).toNat = 2 ^ 4 - 1 := by decide
  have key : (BitVec.ofInt 64 n &&& BitVec.ofInt 64 15).toNat = (n % ((2 ^ 64 : Nat) : Int)).toNat % 2 ^ 4 := by
    rw [BitVec.toNat_and, BitVec.toNat_ofInt, h127, Nat.and_two_pow_sub_one_eq_mod]
  show IntKind.i64.wrap ((BitVec.ofInt 64 n &&& BitVec.ofInt 64 15).toNat : Nat) = n % 16
  rw [key, IntKind.wrap_i64]
  omega

def zoneMark (n : Int) : Int := if n / 16 = 0 then 64 else if n / 16 = 1 then 80 else if n / 16 = 2 then 96 else 112
def zoneFirst (n : Int) : Int := if n / 16 = 0 then 1 else if n / 16 = 1 then 1 else if n / 16 = 2 then 2 else 0

set_option maxHeartbeats 400000 in
theorem zone_any (n : Int) (w : World) (h0 : 0 ≤ n) (h1 : n ≤ 63) :
    Calls Tryz.prog 354 #[.int .i64 n] w fun e w' => e = .returned (.tuple #[.int .u8 (zoneMark n), .int .u8 (zoneMark n + 128), .int .i64 (zoneFirst n), .int .i64 9]) ∧ w = w' := by
  go_enter Tryz.func354, Tryz.ntmps354
  go_wp2
  all_goals
    refine bodyPost_ret (v := .tuple #[.int .u8 (zoneMark n), .int .u8 (zoneMark n + 128), .int .i64 (zoneFirst n), .int .i64 9]) ?_ rfl ⟨rfl, rfl⟩
    simp_all [results, Tryz.results354, go_sem, zoneMark, zoneFirst]

theorem six_letter0 : ∀ k : Fin 64, zoneFirst (k.val : Int) ≤ (k.val : Int) % 16 → (k.val : Int) % 16 ≤ 9 → bits .or .u8 (zoneMark (k.val : Int) + 128) ((k.val : Int) % 16) = ((sixes.getD k.val 0 : Nat) : Int) := by decide +kernel
theorem six_mark0 : ∀ k : Fin 64, ¬ (zoneFirst (k.val : Int) ≤ (k.val : Int) % 16 ∧ (k.val : Int) % 16 ≤ 9) → bits .or .u8 (zoneMark (k.val : Int)) ((k.val : Int) % 16) = ((sixes.getD k.val 0 : Nat) : Int) := by decide +kernel

theorem six_letter (n m : Int) (hm : m = n % 64) (h : zoneFirst m ≤ m % 16) (h' : m % 16 ≤ 9) : bits .or .u8 (zoneMark m + 128) (m % 16) = sixOf n := by
  have h0 : ((m.toNat : Nat) : Int) = m := by omega
  have := six_letter0 ⟨m.toNat, by omega⟩
  simp only [h0] at this
  rw [this h h', sixOf, ← hm]
theorem six_mark (n m : Int) (hm : m = n % 64) (h : m % 16 < zoneFirst m ∨ 9 < m % 16) : bits .or .u8 (zoneMark m) (m % 16) = sixOf n := by
  have h0 : ((m.toNat : Nat) : Int) = m := by omega
  have := six_mark0 ⟨m.toNat, by omega⟩
  simp only [h0] at this
  rw [this (by omega), sixOf, ← hm]

set_option maxHeartbeats 400000 in
theorem six_any (n : Int) (w : World) : Calls Tryz.prog 307 #[.int .i64 n] w fun e w' => e = .returned (.int .u8 (sixOf n)) ∧ w = w' := by
  have e63 := i64_and63 n
  obtain ⟨m, hm⟩ : ∃ m, m = n % 64 := ⟨_, rfl⟩
  rw [← hm] at e63
  have h0 : 0 ≤ m := by omega
  have h1 : m ≤ 63 := by omega
  have e15 := i64_and15 m
  have HM := Lib.hid hm
  clear hm
  go_enter Tryz.func307, Tryz.ntmps307
  go_wp2_with (go_at_call 354; refine (zone_any _ _ (by omega) (by omega)).mono ?_; rintro e w' ⟨rfl, rfl⟩)
  · go_ret
    exact ⟨ret_int (six_letter n m HM.out (by assumption) (by assumption)), rfl⟩
  · go_ret
    exact ⟨ret_int (six_mark n m HM.out (.inr (by assumption))), rfl⟩
  · go_ret
    exact ⟨ret_int (six_mark n m HM.out (.inl (by assumption))), rfl⟩
end Go.Proofs.YtamfjgioajmnpaaGreatDoor
