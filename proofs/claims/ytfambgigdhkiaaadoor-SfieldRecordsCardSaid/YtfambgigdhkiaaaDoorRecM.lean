/-
  For SfieldRecords: RFew, RecQ, RecL and parts of Law21b, Law21d in one text.
-/
import Derived.Deep.CutBlock
import Derived.Deep.DeepCutAuto
import Derived.Deep.DeepMust
import Derived.Deep.RegionHeldLaw
import Derived.Deep.RegionWith
import Derived.Test.YtfambgigdhkiaaaDoorAwake21
import Derived.Test.YtfambgigdhkiaaaDoorFBytes
import Derived.Test.YtfambgigdhkiaaaDoorRestP
namespace Go.Proofs.YtfambgigdhkiaaaDoor
open Go.RowKit
set_option linter.unusedVariables false
set_option linter.unusedSimpArgs false
theorem cut_sl {A : Option Addr} {n c : Nat} {l : List Int} {w : World} (hr : Reads w w.heap.size 1 A n (bs l)) (hb : BL l) (hn : n ≤ c) (hc : c ≤ maxLen) (m : Nat) (hm : m ≤ 65536) :
    Calls Tryd.prog 11 #[.slice A n c, .int .i64 (m : Int)] w fun e w' => ∃ A' c', e = .returned (.slice A' (l.take m).length c') ∧ Sl w.heap.size w' A' (l.take m).length c' (l.take m) ∧ w'.ownsRow w.heap.size 5 1 (.slice A' (l.take m).length c') (l.take m).length (bs (l.take m)) ∧ Up w w' := by
  refine (cut_any A n c l (m : Int) w hr hn hc (by omega) (by omega)).mono ?_
  rintro e w' ⟨A', n', c', rfl, h1, h2, h3, h4, h5⟩
  rw [Int.toNat_natCast] at h2
  have hl : (l.take m).length = n' := by simpa [bs] using h2.1
  rw [hl]
  refine ⟨A', c', rfl, Sl.of_own h2 h3 h4 ?_ (hb.take m), h2, h5⟩
  rw [← hl, List.length_take]
  omega

theorem cut_lit {A : Option Addr} {n c : Nat} {l : List Int} {w : World} (hr : Reads w w.heap.size 1 A n (bs l)) (hb : BL l) (hn : n ≤ c) (hc : c ≤ maxLen) (m : Nat) (hm : m ≤ 65536) (M : Int) (hM : M = (m : Int)) :
    Calls Tryd.prog 11 #[.slice A n c, .int .i64 M] w fun e w' => ∃ A' c', e = .returned (.slice A' (l.take m).length c') ∧ Sl w.heap.size w' A' (l.take m).length c' (l.take m) ∧ w'.ownsRow w.heap.size 5 1 (.slice A' (l.take m).length c') (l.take m).length (bs (l.take m)) ∧ Up w w' := by
  subst hM
  exact cut_sl hr hb hn hc m hm
set_option maxHeartbeats 3200000 in
theorem few_is {k cm m rq : Int} {al : Bool} {A1 A2 : Option Addr} {n1 n2 c1 c2 : Nat} {l1 l2 : List Int} {w : World} (r1 : Reads w w.heap.size 1 A1 n1 (bs l1)) (b1 : BL l1) (q1 : n1 ≤ c1) (m1 : c1 ≤ maxLen) (r2 : Reads w w.heap.size 1 A2 n2 (bs l2)) (b2 : BL l2) (q2 : n2 ≤ c2) (m2 : c2 ≤ maxLen) :
    Calls Tryd.prog 9 #[.agg #[.int .i64 k, .int .i64 cm, .int .i64 m, .bool al, .int .u8 rq, .slice A1 n1 c1, .slice A2 n2 c2]] w fun e w' => ∃ A3 c3 A4 c4, e = .returned (.agg #[.int .i64 k, .int .i64 cm, .int .i64 m, .bool al, .int .u8 rq, .slice A3 (l1.take 20).length c3, .slice A4 (l2.take 300).length c4]) ∧ Sl w.heap.size w' A3 (l1.take 20).length c3 (l1.take 20) ∧ Sl w.heap.size w' A4 (l2.take 300).length c4 (l2.take 300) ∧ Up w w' := by
  have HC1 := Lib.hid (fun w' (hu : Up w w') => cut_lit (r1.up hu) b1 q1 m1 20 (by omega) 20 rfl)
  have HC2 := Lib.hid (fun w' (hu : Up w w') => cut_lit (r2.up hu) b2 q2 m2 300 (by omega) 300 rfl)
  clear r1 b1 q1 m1 r2 b2 q2 m2
  obtain ⟨d1, hd1⟩ : ∃ d, l1.take 20 = d := ⟨_, rfl⟩
  obtain ⟨d2, hd2⟩ : ∃ d, l2.take 300 = d := ⟨_, rfl⟩
  rw [hd1] at HC1 ⊢
  rw [hd2] at HC2 ⊢
  clear hd1 hd2
  obtain ⟨W0, hW0⟩ : ∃ W0, W0 = ((w.alloc (.cells #[.int .i64 k, .int .i64 cm, .int .i64 m, .bool al, .int .u8 rq, .slice A1 n1 c1, .slice A2 n2 c2] 26)).alloc (.cells #[.int .i64 0, .int .i64 0, .int .i64 0, .bool false, .int .u8 0, .slice none 0 0, .slice none 0 0] 26)).drew := ⟨_, rfl⟩
  have U0 := Lib.hid (show Up w W0 from hW0 ▸ (((Up.refl w).alloc _).alloc _).drew)
  have HZ := Lib.hid hW0
  clear hW0
  go_enter Tryd.func9, Tryd.ntmps9
  go_wp2
  go_region_with (first | (go_at_call 11; with_reducible refine (HC1.out _ ((((Up.refl w).alloc _).alloc _).drew)).mono ?_; rintro e w2 ⟨A3, c3, rfl, s3, -, u3⟩; obtain ⟨ka, fa⟩ := u3.at_ w.heap.size (by (try simp) <;> omega); obtain ⟨kb, fb⟩ := u3.at_ (w.heap.size + 1) (by (try simp) <;> omega); have hz2 := u3.size; (try simp at hz2); have y0 : w.heap.size < w2.heap.size := (by omega); have y1 : w.heap.size + 1 < w2.heap.size := (by omega); have S3 := Lib.hid s3; have U3 := Lib.hid (show Up w w2 from ((((Up.refl w).alloc _).alloc _).drew).trans u3); clear s3 u3) | (go_at_call 11; with_reducible refine (HC2.out _ U3.out).mono ?_; rintro e w4 ⟨A4, c4, rfl, s4, -, u4⟩; obtain ⟨la, ga⟩ := u4.at_ w.heap.size y0; obtain ⟨lb, gb⟩ := u4.at_ (w.heap.size + 1) y1; have hz4 := u4.size; have x0 : w.heap.size < w4.heap.size := (by omega); have x1 : w.heap.size + 1 < w4.heap.size := (by omega); have S4 := Lib.hid s4; have U4 := Lib.hid u4; clear s4 u4))
  all_goals
    go_wp2
    refine bodyPost_ret (v := .agg #[.int .i64 k, .int .i64 cm, .int .i64 m, .bool al, .int .u8 rq, .slice A3 d1.length c3, .slice A4 d2.length c4]) (by simp [results, Tryd.results9, go_sem, ka, kb, la, lb, y0, y1, x0, x1]) rfl ⟨A3, c3, A4, c4, rfl, ?_, ?_, by have hU := U3.out.trans U4.out; (repeat (first | with_reducible exact Up.refl _ | with_reducible refine Up.alloc ?_ _ | with_reducible refine Up.drew ?_ | with_reducible refine Up.drewN ?_ _ | with_reducible refine Up.setCell ?_ (by (try simp) <;> omega) _ | with_reducible assumption | with_reducible refine Up.trans ?_ (by assumption)))⟩
    · refine Sl.low (B := w.heap.size + 1 + 1) ?_ (by omega)
      repeat with_reducible refine Sl.set1 ?_ (by omega) _ _
      have := S3.out.up U4.out
      simpa using this
    · refine Sl.low (B := w.heap.size + 1 + 1) ?_ (by omega)
      repeat with_reducible refine Sl.set1 ?_ (by omega) _ _
      exact S4.out.low (by omega)

/-- an act as it comes in -/
abbrev ActT := Int × Int × Int × Bool × Int × Option Addr × Nat × Nat × List Int × Option Addr × Nat × Nat × List Int
def encT (x : ActT) : List Value := [.int .i64 x.1, .int .i64 x.2.1, .int .i64 x.2.2.1, .bool x.2.2.2.1, .int .u8 x.2.2.2.2.1, .slice x.2.2.2.2.2.1 x.2.2.2.2.2.2.1 x.2.2.2.2.2.2.2.1, .slice x.2.2.2.2.2.2.2.2.2.1 x.2.2.2.2.2.2.2.2.2.2.1 x.2.2.2.2.2.2.2.2.2.2.2.1]
def okT (w : World) (x : ActT) : Prop := -9223372036854775808 ≤ x.1 ∧ x.1 ≤ 9223372036854775807 ∧ -9223372036854775808 ≤ x.2.1 ∧ x.2.1 ≤ 9223372036854775807 ∧ -9223372036854775808 ≤ x.2.2.1 ∧ x.2.2.1 ≤ 9223372036854775807 ∧ 0 ≤ x.2.2.2.2.1 ∧ x.2.2.2.2.1 ≤ 255 ∧
  x.2.2.2.2.2.2.2.2.1.length = x.2.2.2.2.2.2.1 ∧ x.2.2.2.2.2.2.1 ≤ x.2.2.2.2.2.2.2.1 ∧ x.2.2.2.2.2.2.2.1 ≤ maxLen ∧ (∀ z ∈ x.2.2.2.2.2.2.2.2.1, 0 ≤ z ∧ z ≤ 255) ∧ Reads w w.heap.size 1 x.2.2.2.2.2.1 x.2.2.2.2.2.2.1 (x.2.2.2.2.2.2.2.2.1.map (Value.int .u8)) ∧
  x.2.2.2.2.2.2.2.2.2.2.2.2.length = x.2.2.2.2.2.2.2.2.2.2.1 ∧ x.2.2.2.2.2.2.2.2.2.2.1 ≤ x.2.2.2.2.2.2.2.2.2.2.2.1 ∧ x.2.2.2.2.2.2.2.2.2.2.2.1 ≤ maxLen ∧ (∀ z ∈ x.2.2.2.2.2.2.2.2.2.2.2.2, 0 ≤ z ∧ z ≤ 255) ∧ Reads w w.heap.size 1 x.2.2.2.2.2.2.2.2.2.1 x.2.2.2.2.2.2.2.2.2.2.1 (x.2.2.2.2.2.2.2.2.2.2.2.2.map (Value.int .u8))
theorem ne_ra2 : 26 ≠ 5 := by decide
/-- an act of the list, cut short -/
theorem few_t {k cm m rq : Int} {al : Bool} {A1 A2 : Option Addr} {n1 n2 c1 c2 : Nat} {l1 l2 : List Int} {w : World} (h : okT w (k, cm, m, al, rq, A1, n1, c1, l1, A2, n2, c2, l2)) {w' : World} (hu : Up w w') :
    SmallA ⟨k, cm, m, al, rq, l1.take 20, l2.take 300⟩ ∧ Calls Tryd.prog 9 #[.agg #[.int .i64 k, .int .i64 cm, .int .i64 m, .bool al, .int .u8 rq, .slice A1 n1 c1, .slice A2 n2 c2]] w' fun e w2 => ∃ A3 c3 A4 c4, e = .returned (.agg #[.int .i64 k, .int .i64 cm, .int .i64 m, .bool al, .int .u8 rq, .slice A3 (l1.take 20).length c3, .slice A4 (l2.take 300).length c4]) ∧ Sl w'.heap.size w2 A3 (l1.take 20).length c3 (l1.take 20) ∧ Sl w'.heap.size w2 A4 (l2.take 300).length c4 (l2.take 300) ∧ Up w' w2 := by
  unfold okT at h
  simp only at h
  obtain ⟨_, _, _, _, _, _, q0, q1, h1, h2, h3, h4, h5, g1, g2, g3, g4, g5⟩ := h
  refine ⟨⟨by simp; omega, by simp; omega, ⟨q0, q1⟩⟩, ?_⟩
  exact few_is (Reads.up (show Reads w w.heap.size 1 A1 n1 (bs l1) from h5) hu) h4 h2 h3 (Reads.up (show Reads w w.heap.size 1 A2 n2 (bs l2) from g5) hu) g4 g2 g3

theorem flds_rec {l : List PAct} (h : ∀ y ∈ l, SmallA y) : fldsOf (l.flatMap fbOf) = (l.map fun a => ((fieldOf a).1, (fieldOf a).2.1), 0) := by
  have h1 := items_fbs l [] h
  rw [List.append_nil, items_nil (l := []) rfl, List.append_nil] at h1
  unfold fldsOf
  rw [h1, upTo_all]
  · rw [List.map_map]
    rfl
  · intro x hx
    obtain ⟨a, _, rfl⟩ := List.mem_map.1 hx
    rfl
/-- a record asks for its acts, plain -/
theorem acts_rec {l : List PAct} (h : ∀ y ∈ l, SmallA y) (ho : ∀ y ∈ l, fOk y = true) : actsOf (l.flatMap fbOf) = (l.map plainOf, 0) := by
  have hk : ∀ a ∈ l, actOf (fieldOf a).1 (fieldOf a).2.1 = (plainOf a, 0) := fun a ha => field_asks (by have := ho a ha; simpa [fOk] using this)
  unfold actsOf
  rw [flds_rec h, actsG_all]
  · rw [List.map_map]
    refine Prod.ext (List.map_congr_left fun a ha => ?_) rfl
    show (actOf (fieldOf a).1 (fieldOf a).2.1).1 = plainOf a
    rw [hk a ha]
  · intro x hx
    obtain ⟨a, ha, rfl⟩ := List.mem_map.1 hx
    show (actOf (fieldOf a).1 (fieldOf a).2.1).2 = 0
    rw [hk a ha]


theorem own_other {w w' : World} {base base2 : Nat} {e e2 : TypeId} {k k2 n n2 : Nat} {v v2 : Value} {xs xs2 : List Value} (h : w.ownsRow base e k v n xs) (h2 : w.ownsRow base2 e2 k2 v2 n2 xs2) (he : e2 ≠ e) (hg : w.grownBy w' v2.ownBlock) : w'.ownsRow base e k v n xs := by
  refine ⟨h.1, ?_⟩
  rcases h.2 with h0 | ⟨g, cap, cur, e1, e2', e3, e4⟩
  · exact .inl h0
  · have hlt : g < w.heap.size := by
      rcases Nat.lt_or_ge g w.heap.size with hlt | hge
      · exact hlt
      · rw [Array.getElem?_eq_none hge] at e3; cases e3
    refine .inr ⟨g, cap, cur, e1, e2', (hg.block g hlt fun e5 => ?_).trans e3, e4⟩
    rcases h2.2 with ⟨e6, _⟩ | ⟨g2, cap2, cur2, e6, _, e7, _⟩
    · rw [e6] at e5; cases e5
    · rw [e6] at e5
      simp only [Value.ownBlock, Option.some.injEq] at e5
      subst e5
      rw [e3] at e7
      injection e7 with e7
      injection e7 with _ e7 _
      exact he e7.symm
section
variable {α β : Type} {e e2 : TypeId} {k k2 : Nat} {cells : α → List Value} {inn : α → List Inn} {cells2 : β → List Value} {inn2 : β → List Inn} {B B2 : Nat} {w w' : World} {A A2 : Option Addr} {c c2 : Nat} {xs : List α} {ys : List β}
theorem FL.other (h : FL e k cells inn B w A c xs) (h2 : FL e2 k2 cells2 inn2 B2 w A2 c2 ys) (he : e2 ≠ e) (he8 : e2 ≠ 5) (hg : w.grownBy w' (Value.slice A2 ys.length c2).ownBlock) : FL e k cells inn B w' A c xs :=
  ⟨own_other h.own h2.own he hg, h.le, h.mx, fun x hx s hs => (h.good x hx s hs).grown he8 h2.own hg⟩
/-- a block made since the list is not the list's -/
theorem FL.apart (h : FL e k cells inn B w A c xs) {u : World} (hu : Up w u) (hg : u.grownBy w' (Value.slice A xs.length c).ownBlock) {b : Nat} (hb : w.heap.size ≤ b) (hb2 : b < u.heap.size) : w'.heap[b]? = u.heap[b]? := by
  refine hg.block b hb2 fun e1 => ?_
  rcases h.own.2 with ⟨e3, _⟩ | ⟨g, cap, cur, e3, _, e4, _⟩
  · rw [e3] at e1; cases e1
  · rw [e3] at e1
    simp only [Value.ownBlock, Option.some.injEq] at e1
    rw [← e1] at e4
    have : b < w.heap.size := by
      rcases Nat.lt_or_ge b w.heap.size with hlt | hge
      · exact hlt
      · rw [Array.getElem?_eq_none hge] at e4; cases e4
    omega
end
theorem ne_rs2 : 26 ≠ 50 := by decide
theorem Reads.block {w w' : World} {B size n b o : Nat} {xs : List Value} (h : Reads w B size (some ⟨b, o, none⟩) n xs) (hb : w'.heap[b]? = w.heap[b]?) : Reads w' B size (some ⟨b, o, none⟩) n xs :=
  ⟨h.1, fun hn => by
    obtain ⟨b', off, e, hb', hc⟩ := h.2 hn
    cases e
    exact ⟨_, _, rfl, hb', fun j u hu => (World.cell?_of_block (a := ⟨b, o + j, none⟩) hb).trans (hc j u hu)⟩⟩
/-- the box of a struct of seven, written anew -/
theorem box7 {w : World} {b : Nat} {u0 u1 u2 u3 u4 u5 u6 v0 v1 v2 v3 v4 v5 v6 : Value} (h : ∀ o, w.cell? ⟨b, o, none⟩ = [u0, u1, u2, u3, u4, u5, u6][o]?) :
    ∀ o v, [v0, v1, v2, v3, v4, v5, v6][o]? = some v → (((((((w.setCell ⟨b, 0, none⟩ v0).setCell ⟨b, 1, none⟩ v1).setCell ⟨b, 2, none⟩ v2).setCell ⟨b, 3, none⟩ v3).setCell ⟨b, 4, none⟩ v4).setCell ⟨b, 5, none⟩ v5).setCell ⟨b, 6, none⟩ v6).cell? ⟨b, o, none⟩ = some v := by
  intro o v hv
  have ne : ∀ {i j : Nat}, i ≠ j → (⟨b, i, none⟩ : Addr) ≠ ⟨b, j, none⟩ := fun hij e => hij (by injection e)
  rcases o with _ | _ | _ | _ | _ | _ | _ | o
  all_goals (try (simp at hv; done))
  all_goals
    simp only [List.getElem?_cons_zero, List.getElem?_cons_succ, Option.some.injEq] at hv
    subst hv
    try simp only [Nat.zero_add, Nat.reduceAdd]
    repeat rw [World.cell?_setCell_other (h := ne (by decide))]
    refine @World.cell?_setCell_same _ _ _ ?_ ?_
    rotate_left
    repeat rw [World.cell?_setCell_other (h := ne (by decide))]
    rw [h]
    simp only [List.getElem?_cons_zero, List.getElem?_cons_succ]
    rfl
/-- two lists side by side, a box and the act in it -/
structure Duo (w1 : World) (b n1 n2 : Nat) (x : EA) (A1 : Option Addr) (c1 : Nat) (xs : List EA) (A2 : Option Addr) (c2 : Nat) (ys : List EA) (W : World) : Prop where
  up : Up w1 W
  lt : b < W.heap.size
  fx : FL 50 7 EA.cells EA.inn w1.heap.size W A1 c1 xs
  fy : FL 26 7 EA.cells EA.inn w1.heap.size W A2 c2 ys
  lx : xs.length = n1
  ly : ys.length = n2
  s3 : ∀ s ∈ EA.inn x, Sl w1.heap.size W s.1 s.2.2.length s.2.1 s.2.2
  box : ∀ o v, x.cells[o]? = some v → W.cell? ⟨b, o, none⟩ = some v
theorem fresh {w : World} {B k n c : Nat} {e : TypeId} {A : Option Addr} {cells : EA → List Value} {inn : EA → List Inn} {xs : List EA} (h : FL e k cells inn B w A c xs) (hn : xs.length = n) : ∀ g, (Value.slice A n c).ownBlock = some g → g < w.heap.size := by
  subst hn
  intro g hg
  rcases h.own.2 with ⟨e3, _⟩ | ⟨g2, cap, cur, e3, _, e4, _⟩
  · rw [e3] at hg; cases hg
  · rw [e3] at hg
    simp only [Value.ownBlock, Option.some.injEq] at hg
    rw [← hg]
    rcases Nat.lt_or_ge g2 w.heap.size with hlt | hge
    · exact hlt
    · rw [Array.getElem?_eq_none hge] at e4; cases e4
section
variable {w1 W W' : World} {b n1 n2 : Nat} {x z : EA} {A1 A2 A' : Option Addr} {c1 c2 c' : Nat} {xs ys : List EA}
theorem Duo.on (h : Duo w1 b n1 n2 x A1 c1 xs A2 c2 ys W) (hu : Up W W') : Duo w1 b n1 n2 x A1 c1 xs A2 c2 ys W' :=
  ⟨h.up.trans hu, Nat.lt_of_lt_of_le h.lt hu.size, h.fx.up hu, h.fy.up hu, h.lx, h.ly, fun s hs => (h.s3 s hs).up hu, fun o v hv => ((hu.at_ b h.lt).1 o).trans (h.box o v hv)⟩
theorem kept_of (hg : W.grownBy W' (Value.slice A1 n1 c1).ownBlock) (hf : ∀ g, (Value.slice A1 n1 c1).ownBlock = some g → g < b) {k : Nat} (h1 : b ≤ k) (h2 : k < W.heap.size) : W'.heap[k]? = W.heap[k]? :=
  hg.block k h2 fun e => absurd (hf k e.symm) (by omega)
theorem Duo.app1 (h : Duo w1 b n1 n2 x A1 c1 xs A2 c2 ys W) (hf : ∀ g, (Value.slice A1 n1 c1).ownBlock = some g → g < b) (hg : W.grownBy W' (Value.slice A1 n1 c1).ownBlock) (hb : Below w1.heap.size W W')
    (ho : W'.ownsRow w1.heap.size 50 7 (.slice A' (n1 + 1) c') (n1 + 1) (xs.flatMap EA.cells ++ EA.cells z)) (hle : n1 + 1 ≤ c') (hmx : c' ≤ maxLen) (hz : ∀ s ∈ EA.inn z, Sl w1.heap.size W s.1 s.2.2.length s.2.1 s.2.2) :
    Duo w1 b (n1 + 1) n2 x A' c' (xs ++ [z]) A2 c2 ys W' := by
  obtain ⟨up, lt, fx, fy, rfl, ly, s3, box⟩ := h
  exact ⟨up.past hb, Nat.lt_of_lt_of_le lt hg.size, fx.push ne_sa hz hg ho hle hmx, fy.other fx ne_rs2.symm ne_sa hg, by simp, ly, fun s hs => (s3 s hs).grown ne_sa fx.own hg, fun o v hv => (World.cell?_of_block (a := ⟨b, o, none⟩) (kept_of hg hf (Nat.le_refl _) lt)).trans (box o v hv)⟩
theorem Duo.app2 (h : Duo w1 b n1 n2 x A1 c1 xs A2 c2 ys W) (hf : ∀ g, (Value.slice A2 n2 c2).ownBlock = some g → g < b) (hg : W.grownBy W' (Value.slice A2 n2 c2).ownBlock) (hb : Below w1.heap.size W W')
    (ho : W'.ownsRow w1.heap.size 26 7 (.slice A' (n2 + 1) c') (n2 + 1) (ys.flatMap EA.cells ++ EA.cells x)) (hle : n2 + 1 ≤ c') (hmx : c' ≤ maxLen) :
    Duo w1 b n1 (n2 + 1) x A1 c1 xs A' c' (ys ++ [x]) W' := by
  obtain ⟨up, lt, fx, fy, lx, rfl, s3, box⟩ := h
  exact ⟨up.past hb, Nat.lt_of_lt_of_le lt hg.size, fx.other fy ne_rs2 ne_ra2 hg, fy.push ne_ra2 s3 hg ho hle hmx, lx, by simp, fun s hs => (s3 s hs).grown ne_ra2 fy.own hg, fun o v hv => (World.cell?_of_block (a := ⟨b, o, none⟩) (kept_of hg hf (Nat.le_refl _) lt)).trans (box o v hv)⟩
end
/-- a literal of one struct that was laid since -/
def Lit (b0 : Nat) (cs : List Value) (p : Option Addr) (W : World) : Prop := ∃ b, p = some ⟨b, 0, none⟩ ∧ b0 ≤ b ∧ b < W.heap.size ∧ Reads W (b + 1) 7 (some ⟨b, 0, none⟩) 1 cs
section
variable {b0 : Nat} {w W W' : World} {cs : Array Value} {t : TypeId} {p : Option Addr} {l : List Value}
theorem Lit.new (h7 : cs.size = 7) (h : b0 ≤ w.heap.size) : Lit b0 cs.toList (some ⟨w.heap.size, 0, none⟩) (w.alloc (.cells cs t)) :=
  ⟨_, rfl, h, by simp, reads_at w _ 7 1 cs t (by rw [h7]) rfl⟩
theorem Lit.new2 {o : Obj} (h7 : cs.size = 7) (h : b0 ≤ w.heap.size) : Lit b0 cs.toList (some ⟨w.heap.size + 1, 0, none⟩) ((w.alloc o).alloc (.cells cs t)) := by
  have := Lit.new (w := w.alloc o) (t := t) h7 (Nat.le_trans h (by simp))
  simpa using this
theorem Lit.on (h : Lit b0 l p W) (hu : Up W W') : Lit b0 l p W' := by
  obtain ⟨b, rfl, h1, h2, h3⟩ := h
  exact ⟨b, rfl, h1, Nat.lt_of_lt_of_le h2 hu.size, h3.block (hu.block b h2)⟩
theorem Lit.grown {A1 : Option Addr} {n1 c1 : Nat} (h : Lit b0 l p W) (hg : W.grownBy W' (Value.slice A1 n1 c1).ownBlock) (hf : ∀ g, (Value.slice A1 n1 c1).ownBlock = some g → g < b0) : Lit b0 l p W' := by
  obtain ⟨b, rfl, h1, h2, h3⟩ := h
  exact ⟨b, rfl, h1, Nat.lt_of_lt_of_le h2 hg.size, h3.block (kept_of hg hf h1 h2)⟩
theorem Lit.rd (h : Lit b0 l p W) : Reads W W.heap.size 7 p 1 l := by
  obtain ⟨b, rfl, h1, h2, h3⟩ := h
  exact h3.more (by omega)
end
section
variable {w1 W W' : World} {b n1 n2 : Nat} {x z : EA} {A1 A2 A' : Option Addr} {c1 c2 c' : Nat} {xs ys : List EA}
theorem Duo.ownx (h : Duo w1 b n1 n2 x A1 c1 xs A2 c2 ys W) : W.ownsRow w1.heap.size 50 7 (.slice A1 n1 c1) n1 (xs.flatMap EA.cells) := by have := h.fx.own; rw [h.lx] at this; exact this
theorem Duo.owny (h : Duo w1 b n1 n2 x A1 c1 xs A2 c2 ys W) : W.ownsRow w1.heap.size 26 7 (.slice A2 n2 c2) n2 (ys.flatMap EA.cells) := by have := h.fy.own; rw [h.ly] at this; exact this
def ZSl (w1 : World) (z : EA) (W : World) : Prop := ∀ s ∈ EA.inn z, Sl w1.heap.size W s.1 s.2.2.length s.2.1 s.2.2
theorem ZSl.of {a : PAct} {A3 A4 : Option Addr} {c3 c4 : Nat} (h1 : Sl w1.heap.size W A3 a.codes.length c3 a.codes) (h2 : Sl w1.heap.size W A4 a.rec_.length c4 a.rec_) : ZSl w1 ⟨a, A3, c3, A4, c4⟩ W := by
  intro s hs
  rw [show EA.inn ⟨a, A3, c3, A4, c4⟩ = [(A3, c3, a.codes), (A4, c4, a.rec_)] from rfl] at hs
  simp only [List.mem_cons, List.mem_nil_iff, or_false] at hs
  rcases hs with rfl | rfl
  · exact h1
  · exact h2
theorem ZSl.on (h : ZSl w1 z W) (hu : Up W W') : ZSl w1 z W' := fun s hs => (h s hs).up hu
theorem ZSl.grown (h : ZSl w1 z W) {n : Nat} (ho : W.ownsRow w1.heap.size 26 7 (.slice A2 n c2) n (ys.flatMap EA.cells)) (hg : W.grownBy W' (Value.slice A2 n c2).ownBlock) : ZSl w1 z W' := fun s hs => (h s hs).grown ne_ra2 ho hg
theorem Duo.sa {a : PAct} {A3 A4 : Option Addr} {c3 c4 : Nat} (h : Duo w1 b n1 n2 ⟨a, A3, c3, A4, c4⟩ A1 c1 xs A2 c2 ys W) : Sl w1.heap.size W A3 a.codes.length c3 a.codes := h.s3 (A3, c3, a.codes) (by simp [EA.inn])
theorem Duo.sb {a : PAct} {A3 A4 : Option Addr} {c3 c4 : Nat} (h : Duo w1 b n1 n2 ⟨a, A3, c3, A4, c4⟩ A1 c1 xs A2 c2 ys W) : Sl w1.heap.size W A4 a.rec_.length c4 a.rec_ := h.s3 (A4, c4, a.rec_) (by simp [EA.inn])
end

end Go.Proofs.YtfambgigdhkiaaaDoor
