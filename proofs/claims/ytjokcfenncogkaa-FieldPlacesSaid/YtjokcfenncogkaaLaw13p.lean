/-
  The walk of FieldPlaces: whatever the model, the acts and the numbers, it returns true. No condition but where the acts lie.
-/
import Derived.Test.YtjokcfenncogkaaAw13
import Derived.Test.YtjokcfenncogkaaOf13
import Derived.Test.YtjokcfenncogkaaP13All
namespace Go.Proofs.Ytjokcfenncogkaa
open Go.RowKit Go.Shelf
set_option linter.unusedVariables false
set_option linter.unusedSimpArgs false
attribute [local go_sem] Oper.semAt_some

/-- old blocks as they were but T, the iterator's own are new -/
structure KpN (T : Nat → Prop) (w : World) (N : Nat → Prop) (W : World) : Prop where
  up : Keep T w W
  nw : ∀ k, N k → w.heap.size ≤ k
theorem KpN.keep {T : Nat → Prop} {w : World} {N N' : Nat → Prop} {W W' : World} (h : KpN T w N W) (hk : Keep N W W') (hn : ∀ k, N' k → N k ∨ (W.heap.size ≤ k ∧ k < W'.heap.size)) : KpN T w N' W' := by
  refine ⟨h.up.past2 hk (fun k e => .inl (h.nw k e)), fun k e => ?_⟩
  rcases hn _ e with e | e
  · exact h.nw k e
  · have := h.up.size; omega
theorem KpN.up2 {T : Nat → Prop} {w : World} {N : Nat → Prop} {W W' : World} (h : KpN T w N W) (hu : Up W W') : KpN T w N W' := ⟨h.up.up hu, h.nw⟩
theorem KpN.set {T : Nat → Prop} {w : World} {N : Nat → Prop} {W : World} (h : KpN T w N W) {b : Nat} (hb : T b) (u : Value) : KpN T w N (W.setCell ⟨b, 0, none⟩ u) := ⟨h.up.setCell (.inl hb) u, h.nw⟩
theorem collect_places {p g b b2 : Nat} {X : Spc} {a : Int} {w : World} (hs : SAt w p g X) (ok : X.Ok) (hb : w.cell? ⟨b, 0, none⟩ = some (.pointer (some ⟨p, 0, none⟩))) (hb2 : w.cell? ⟨b2, 0, none⟩ = some (.int .i64 a)) (hf2 : w.frozen? ⟨b2, 0, none⟩ = false) (hp : p ≠ b2) (hg : g ≠ b2) :
    Calls Try.prog 55 #[.func (.func 130) #[] #[.pointer (some ⟨b, 0, none⟩), .pointer (some ⟨b2, 0, none⟩)]] w fun e w' => ∃ A c, e = .returned (.slice A (X.places a).length c) ∧ OwnI w.heap.size w' A (X.places a).length c (X.places a) ∧ Keep (fun k => k = b2) w w' := by
  have hbb : b ≠ b2 := fun e => by subst e; rw [hb] at hb2; cases hb2
  refine (collect_n (X.places a) enters_places (by have := places_len ok a; have := ok.small; omega) (places_it ok (p := p) (b := b) (b2 := b2) (a := a)) (fun k h => by subst h; exact cell_lt hb2) (fun W hu => ⟨((hu.at_ b2 (cell_lt hb2)).1 0).trans hb2, ((hu.at_ b2 (cell_lt hb2)).2 0).trans hf2⟩) (fun W hk => ⟨g, X, hs.held hk hp hg, ok, Alike.refl X, ((hk.at_ b (cell_lt hb) hbb).1 0).trans hb⟩) (fun _ _ _ h => h) (fun _ h => h))
theorem OwnB.told {B : Nat} {W : World} {A : Option Addr} {n c : Nat} {l : List Int} (h : OwnB B W A n c l) : RSl l (.slice A n c) W := ⟨A, n, c, rfl, h.len.symm, h.le, h.mx, h.reads⟩
theorem same_told {A A' : Option Addr} {n n' c c' : Nat} {l : List Int} {w : World} (h : RSl l (.slice A n c) w) (h' : Reads w w.heap.size 1 A' n' (bs l)) (hl : ∀ x ∈ l, 0 ≤ x ∧ x ≤ 255) :
    Calls Try.prog 77 #[.slice A n c, .slice A' n' c'] w fun e w' => e = .returned (.bool true) ∧ w = w' := by
  obtain ⟨B, m, d, he, _, _, _, hr⟩ := h
  injection he with e1 e2 e3
  subst e1; subst e2; subst e3
  refine (same_any A A' n n' c c' _ _ l l w hr h' hl hl).mono ?_
  rintro e w' ⟨rfl, rfl⟩
  exact ⟨by simp, rfl⟩
theorem same_two {A A' : Option Addr} {n n' c c' B B' : Nat} {l : List Int} {w : World} (h : Reads w B 1 A n (bs l)) (h' : Reads w B' 1 A' n' (bs l)) (hl : ∀ x ∈ l, 0 ≤ x ∧ x ≤ 255) :
    Calls Try.prog 77 #[.slice A n c, .slice A' n' c'] w fun e w' => e = .returned (.bool true) ∧ w = w' := by
  refine (same_any A A' n n' c c' _ _ l l w h h' hl hl).mono ?_
  rintro e w' ⟨rfl, rfl⟩
  exact ⟨by simp, rfl⟩
theorem allTo_le {X : Spc} (ok : X.Ok) (l : List Int) : allTo X l ≤ l.length * 3564 := by
  induction l with
  | nil => simp [allTo]
  | cons a l ih =>
    have h : allTo X (a :: l) = 1 + (X.places a).length + allTo X l := by simp [allTo]
    have h3 := places_len ok a
    have h4 := ok.small
    rw [h, List.length_cons, Nat.add_mul]
    omega
theorem text_bd {X : Spc} (ok : X.Ok) (a : Int) : ∀ x ∈ X.text a, 0 ≤ x ∧ x ≤ 255 := by
  intro x hx
  unfold Spc.text at hx
  rw [List.mem_map] at hx
  obtain ⟨n, _, rfl⟩ := hx
  exact (ok.at_wf n).ch
set_option maxRecDepth 100000 in
set_option maxHeartbeats 12800000 in
theorem law_places13 (m : Int) (A : Option Addr) (n cap : Nat) (l : List ActR) (nn st : Int) (w : World) (m0 : 0 ≤ m) (m1 : m ≤ 255) (hl : l.length = n) (hn : n ≤ cap) (hc : cap ≤ maxLen) (hok : ∀ x ∈ l, x.Ok w w.heap.size) (hr : Reads w w.heap.size 11 A n (l.flatMap ActR.enc))
    (n0 : -9223372036854775808 ≤ nn) (n1 : nn ≤ 9223372036854775807) (s0 : 0 ≤ st) (s1 : st ≤ 255) :
    Calls Try.prog 10 #[.int .u8 m, .slice A n cap, .int .i64 nn, .int .u8 st] w fun e w' => e = .returned (.bool true) ∧ Up w w' := by
  have HWF := Lib.hid (show ∀ a ∈ plains l, a.Wf from fun a ha => by simp only [plains, List.mem_map] at ha; obtain ⟨x, hx, rfl⟩ := ha; exact (hok x hx).wf)
  have HOK := Lib.hid (layS_ok m0 HWF.out)
  have HLY := Lib.hid (fun W (hu : Up w W) => lay13_is (B := w.heap.size) (w := W) m0 m1 hu.size (hr.below hu) hl hn hc (fun x hx => (hok x hx).keep hu))
  clear hok hr hl HWF
  refine (callsIn_wide (n := 9)).1 ?_
  refine callsIn_of_wp_marks Try.func10 rfl trivial ?_ rfl
  simp only [Try.ntmps10, List.size_toArray, List.length_cons, List.length_nil, Nat.reduceAdd, Nat.reduceSub, Array.replicate_succ, Array.replicate_zero, List.push_toArray, List.append_toArray, List.nil_append, List.cons_append]
  refine wpIn_wide.2 ?_
  go_wp2_with fail
  refine (awake13 _).mono ?_
  rintro e w0 ⟨rfl, hu0⟩
  have hb0 := hu0.at_ w.heap.size (by simp)
  have B0 : BoxAt (fun _ => False) w0 w.heap.size (.bool false) := ⟨(hb0.1 0).trans (by simp [go_sem]), (hb0.2 0).trans (by simp [go_sem]), fun h => h⟩
  have HB0 := Lib.hid B0
  have HU0 := Lib.hid (((Up.refl w).alloc _).trans hu0)
  have hz0 := hu0.size
  simp at hz0
  have HZ0 := Lib.hid hz0
  clear hu0 hb0 B0 hz0
  go_wp2_with fail
  refine (HLY.out _ HU0.out).mono ?_
  rintro e w1 ⟨p, g, q, h, rfl, hs, hr, hne, hu1⟩
  obtain ⟨X, hX⟩ : ∃ X, layS m (plains l) = X := ⟨_, rfl⟩
  rw [hX] at hs hr HOK
  have HU1 := Lib.hid (HU0.out.trans hu1)
  have HZ1 := Lib.hid hu1.size
  have HB1 := Lib.hid (HB0.out.up hu1)
  have HS1 := Lib.hid hs
  have HR1 := Lib.hid hr
  have HAT := Lib.hid (fun W (h' : RAt W q h X) => rattrs_is h' HOK.out)
  clear hs hr hu1 hX HLY hne
  go_wp2_with fail
  refine (HAT.out _ (HR1.out.up ((Up.refl w1).alloc _))).mono ?_
  rintro e w2 ⟨AL, cL, rfl, hownL, hu2⟩
  have hb2 := hu2.at_ w1.heap.size (by simp)
  have BX : BoxAt (fun _ => False) w2 w1.heap.size (.pointer (some ⟨q, 0, none⟩)) := ⟨(hb2.1 0).trans (by simp [go_sem]), (hb2.2 0).trans (by simp [go_sem]), fun h => h⟩
  have HU2 := Lib.hid (((Up.refl w1).alloc (.cells #[.pointer (some ⟨q, 0, none⟩)] 31)).trans hu2)
  have hz2 := hu2.size
  simp at hz2
  have HZ2 := Lib.hid hz2
  have HOL := Lib.hid hownL
  have HBX := Lib.hid BX
  have HB2 := Lib.hid (HB1.out.up HU2.out)
  have HS2 := Lib.hid (HS1.out.up HU2.out)
  have HR2 := Lib.hid (HR1.out.up HU2.out)
  have hla : X.attrs.length ≤ 3564 := Nat.le_trans (those_len _ _) HOK.out.small
  have HLE := Lib.hid hownL.le
  have HMX := Lib.hid hownL.mx
  obtain ⟨nl, hnl⟩ : ∃ nl, X.attrs.length = nl := ⟨_, rfl⟩
  have HNL := Lib.hid hnl
  rw [hnl] at hla HLE ⊢
  clear hu2 hb2 BX hz2 hownL HAT hnl
  go_wp2_with fail
  refine (fields_val13 _ _).mono ?_
  rintro e w3 ⟨b, rfl, hb, hz, hcb, hfb, hu3⟩
  simp at hb hz
  have hb3 := hu3.at_ (w2.heap.size + 1) (by simp)
  have hb4 := hu3.at_ w2.heap.size (by simp <;> omega)
  have BI : BoxAt (fun _ => False) w3 (w2.heap.size + 1) (.int .i64 ((0 : Nat) : Int)) := ⟨(hb3.1 0).trans (by simp [go_sem]), (hb3.2 0).trans (by simp [go_sem]), fun h => h⟩
  have BL : BoxAt (fun _ => False) w3 w2.heap.size (.slice AL nl cL) := ⟨(hb4.1 0).trans (by simp [go_sem]), (hb4.2 0).trans (by simp [go_sem]), fun h => h⟩
  have HU3 := Lib.hid ((((Up.refl w2).alloc (.cells #[.slice AL nl cL] 50)).alloc (.cells #[.int .i64 0] 3)).trans hu3)
  have HBI := Lib.hid BI
  have HBL := Lib.hid BL
  have HBF := Lib.hid (show BoxAt (fun _ => False) w3 b (.pointer (some ⟨p, 0, none⟩)) from ⟨hcb, hfb, fun h => h⟩)
  have HB3 := Lib.hid (HB2.out.up HU3.out)
  have HBX3 := Lib.hid (HBX.out.up HU3.out)
  have HS3 := Lib.hid (HS2.out.up HU3.out)
  have HR3 := Lib.hid (HR2.out.up HU3.out)
  have HOL3 := Lib.hid (HOL.out.up HU3.out)
  have HUW := Lib.hid (HU1.out.trans (HU2.out.trans HU3.out))
  have HZ := Lib.hid (show w.heap.size + 1 ≤ w0.heap.size ∧ w0.heap.size ≤ w1.heap.size ∧ w1.heap.size + 1 ≤ w2.heap.size ∧ w2.heap.size + 2 ≤ b ∧ b < w3.heap.size from by
    have h1 := HZ0.out
    have h2 := HZ1.out
    have h3 := HZ2.out
    exact ⟨by omega, by omega, by omega, by omega, by omega⟩)
  clear hu3 hb3 hb4 BI BL hb hz hcb hfb
  go_wp2_with fail
  refine wpIn_wide.1 (range_n (n := 9) (gf := 129) (lb := #[.pointer (some ⟨b, 0, none⟩)]) rfl enters_fields13 (fields_it (p := p) (m := X.L.length) (b := b) (f := isAt X.L) (Q := fun Y => Y.L = X.L) (fun Y hY k _ => by rw [hY])) (fun _ => rfl)
    (fun _ => False) (fun k hk => hk.elim) (fun k hk => hk.elim) (fun _ _ => trivial)
    (fun N pre W => KpN (fun k => k = w2.heap.size + 1) w3 N W ∧ BoxAt N W (w2.heap.size + 1) (.int .i64 (pre.length : Int)))
    (fun _ _ _ _ => False)
    (fun N N' s A A' h hk hn => ⟨h.1.keep hk hn, h.2.keep hk hn⟩) (fun _ _ _ _ _ _ h _ _ => h)
    ?see ⟨⟨Keep.refl _ _, fun k h => h.elim⟩, HBI.out⟩
    (fun pre x a' N W' => pre.map (fun y : Int × Int => y.1) ++ [x.1] <+: those (isAt X.L) X.L.length ∧ x.2 = (X.at_ x.1).fa ∧ ∃ bx, a' = { tmps := #[.int .u8 m, .slice A n cap, .int .i64 nn, .int .u8 st, undef, undef, undef, undef, .pointer (some ⟨w.heap.size, 0, none⟩), .pointer (some ⟨p, 0, none⟩), .pointer (some ⟨w1.heap.size, 0, none⟩), .pointer (some ⟨w2.heap.size, 0, none⟩), .int .i64 0, .pointer (some ⟨w2.heap.size + 1, 0, none⟩), .int .i64 x.1, .pointer (some ⟨bx, 0, none⟩), undef, undef, undef, undef, undef, undef, .bool true, .bool false, .tuple #[.pointer (some ⟨p, 0, none⟩), .pointer (some ⟨q, 0, none⟩)], .int .u8 m, .slice A n cap, .tuple #[.pointer (some ⟨p, 0, none⟩), .pointer (some ⟨q, 0, none⟩)], .pointer (some ⟨p, 0, none⟩), .pointer (some ⟨q, 0, none⟩), .pointer (some ⟨q, 0, none⟩), .slice AL nl cL, .pointer (some ⟨p, 0, none⟩), .func (.func 129) #[] #[.pointer (some ⟨b, 0, none⟩)], .int .i64 x.1, .agg #[.bool (fP x.2), .bool (fN x.2), .int .i64 (fD x.2), .bool (fM x.2)], undef, undef, undef, undef, undef, undef, undef, undef, undef, undef, undef, undef, undef, undef, undef, undef, undef, undef, undef, undef, undef, undef, undef, undef, undef, undef, undef, undef, undef, undef, undef, undef, undef, undef, undef, undef, undef, undef, undef, undef, undef, undef, undef, undef, undef, undef, undef, undef, undef, undef, undef, undef, undef, undef, undef, undef, undef, undef, undef, undef, undef, undef, undef, undef, undef, undef, undef, undef, undef, undef, undef, undef, undef, undef, undef, undef, undef, undef, undef, undef, undef, undef, undef, undef, undef, undef, undef, undef, undef, undef, undef, undef, undef, undef, undef, undef, undef, undef, undef, undef, undef, undef, undef, undef, undef, undef, undef, undef, undef, undef, undef, undef, undef, undef], defers := [] } ∧
      (∀ o v, (#[.bool (fP x.2), .bool (fN x.2), .int .i64 (fD x.2), .bool (fM x.2)] : Array Value)[o]? = some v → W'.cell? ⟨bx, o, none⟩ = some v) ∧ bx < W'.heap.size ∧ ¬ N bx ∧ w3.heap.size ≤ bx)
    ?ownax ?assign ?body ?done (fun _ _ _ _ _ _ _ _ _ h _ => h.elim))
  case see =>
    rintro N pre W ⟨h1, h2⟩
    have h9 := HZ.out
    have z1 := HS1.out.lt
    have z2 := HS1.out.cells.2.1
    exact ⟨g, X, HS3.out.held h1.up (by omega) (by omega), HOK.out, rfl, rfl, ((h1.up.at_ b (by omega) (by omega)).1 0).trans HBF.out.c⟩
  case ownax =>
    rintro pre x a' N N' _ A A' ⟨h1, h2, bx, h4, h5, h6, h7, h8⟩ hk hn
    exact ⟨h1, h2, bx, h4, fun o v ho => ((hk.at_ bx h6 h7).1 o).trans (h5 o v ho), by have := hk.size; omega, fun h => by
      rcases hn _ h with h | h
      · exact h7 h
      · omega, h8⟩
  case assign =>
    rintro ll N pre ⟨x, fa⟩ A K hz hI hG hK
    have h9 := HZ.out
    have z1 := HS1.out.lt
    have z2 := HS1.out.cells.2.1
    have hfa := hG.2 g X (HS3.out.held hI.1.up (by omega) (by omega)) HOK.out rfl
    have HI := Lib.hid hI
    have HN := Lib.hid hz
    have HG := Lib.hid hG.1
    have HFA := Lib.hid hfa.symm
    have hzz := hI.1.up.size
    clear hI hz hG hfa h9 z1 z2
    simp only [encF]
    gi_wp2
    refine hK _ _ (Held.of_up (show Up A _ by (repeat (first | with_reducible exact Up.refl _ | with_reducible refine Up.alloc ?_ _ | with_reducible refine Up.drew ?_ | with_reducible refine Up.drewN ?_ _ | with_reducible refine Up.setCell ?_ (by (try simp) <;> omega) _ | with_reducible assumption | with_reducible refine Up.trans ?_ (by assumption)))) HN.out) ⟨HI.out.1.up2 (by (repeat (first | with_reducible exact Up.refl _ | with_reducible refine Up.alloc ?_ _ | with_reducible refine Up.drew ?_ | with_reducible refine Up.drewN ?_ _ | with_reducible refine Up.setCell ?_ (by (try simp) <;> omega) _ | with_reducible assumption | with_reducible refine Up.trans ?_ (by assumption)))), HI.out.2.up (by (repeat (first | with_reducible exact Up.refl _ | with_reducible refine Up.alloc ?_ _ | with_reducible refine Up.drew ?_ | with_reducible refine Up.drewN ?_ _ | with_reducible refine Up.setCell ?_ (by (try simp) <;> omega) _ | with_reducible assumption | with_reducible refine Up.trans ?_ (by assumption))))⟩ ⟨HG.out, HFA.out, A.heap.size, rfl, fun o v ho => ?_, by simp, fun h => by have := HN.out _ h; omega, hzz⟩
    rcases (show o = 0 ∨ o = 1 ∨ o = 2 ∨ o = 3 ∨ 4 ≤ o by omega) with rfl | rfl | rfl | rfl | ho4
    · simp at ho; subst ho; simp [go_sem]
    · simp at ho; subst ho; simp [go_sem]
    · simp at ho; subst ho; simp [go_sem]
    · simp at ho; subst ho; simp [go_sem]
    · rw [Array.getElem?_eq_none (by simp; omega)] at ho; cases ho
  case body =>
    rintro ll N pre ⟨x, fa⟩ a' W hl hr hz ⟨hI1, hI2⟩ ⟨hG, hfa, bx, rfl, hbx, zx, hbn, hbx2⟩
    simp only at hG hfa
    have h9 := HZ.out
    have zq1 := HR1.out.lt
    have zh1 := HR1.out.cells.2.1
    have hmem : x ∈ those (isAt X.L) X.L.length := hG.subset (by simp)
    obtain ⟨kx, rfl, hkx, -⟩ := mem_those.1 hmem
    have hlen : pre.length + 1 ≤ nl := by have := hG.length_le; have h8 : (those (isAt X.L) X.L.length).length = nl := HNL.out; simp at this; omega
    have hel : X.attrs[pre.length]? = some (kx : Int) := by
      obtain ⟨r, hr2⟩ := hG
      have : X.attrs = pre.map (fun y : Int × Int => y.1) ++ [(kx : Int)] ++ r := hr2.symm
      rw [this, List.append_assoc, List.getElem?_append_right (by simp)]
      simp
    have hrdL := (HOL3.out.reads).kept hI1.up (fun pp hpp e => by have := HOL.out.at_ pp hpp; have h8 := HZ2.out; omega)
    obtain ⟨bl, ol, rfl, hbl⟩ := hrdL.form (by rw [HNL.out]; omega)
    have hxl : W.cell? ⟨bl, ol + pre.length, none⟩ = some (.int .i64 (kx : Int)) := by
      obtain ⟨_, u, hu, hcu⟩ := hrdL.at_ (j := pre.length) (by rw [HNL.out]; omega)
      unfold ns at hu
      rw [List.getElem?_map, hel] at hu
      rw [hcu]; exact hu.symm
    have y0 := hbx 0 _ rfl
    have y1 := hbx 1 _ rfl
    have y2 := hbx 2 _ rfl
    have y3 := hbx 3 _ rfl
    have c1 := hI2.c
    have f1 := hI2.f
    have z1 := hI2.lt
    have hx2 := hI1.up.at_ w2.heap.size (by omega) (by omega)
    have c2 := (hx2.1 0).trans HBL.out.c
    have z2 : w2.heap.size < W.heap.size := by omega
    have hx3 := hI1.up.at_ w1.heap.size (by omega) (by omega)
    have c3 := (hx3.1 0).trans HBX3.out.c
    have z3 : w1.heap.size < W.heap.size := by omega
    have HRF := Lib.hid (fun W' (hu : Up W W') => rfield_is ((HR3.out.held hI1.up (by omega) (by omega)).up hu) HOK.out hkx (f := fa) hfa.symm)
    have ea := eqF fa
    have HI := Lib.hid (show _ ∧ _ from ⟨hI1, hI2⟩)
    have HN := Lib.hid hz
    have hlt : ¬ (nl : Int) ≤ (pre.length : Int) := by omega
    have hlt2 : decide (nl ≤ pre.length) = false := by simp; omega
    have hcL : (cL : Int) ≤ 9223372036854775807 := by have := HMX.out; simp [maxLen] at this; omega
    have hleL := HLE.out
    have HLE2 := Lib.hid hlen
    have hpn : (pre.length : Int) < (nl : Int) := by omega
    clear hI1 hI2 hz hG hfa hbx hr hl hmem hel hrdL hx2 hx3 h9 hlen
    generalize fP fa = v0 at *
    generalize fN fa = v1 at *
    generalize fD fa = v2 at *
    generalize fM fa = v3 at *
    gi_wp2
    refine wpIn_region_mixT 18 (NS := []) [] rfl (by kernel_rfl) (by kernel_rfl) (by simp) (by simp) ?_
    simp only [List.take_succ_cons, List.take_zero, List.drop_succ_cons, List.drop_zero]
    repeat (first
      | (refine mix_skip rfl rfl ?_; simp only [Act.put, List.setIfInBounds_toArray, List.set_cons_succ, List.set_cons_zero])
      | (refine mix_q rfl rfl rfl (by kernel_rfl) rfl rfl rfl ?_
         apply Exists.intro
         refine ⟨fun Wm => ?_, ?_⟩
         · simp only [fin]
           skip
           intro K hK
           go_wp2_with ((go_at_call 51; (with_reducible refine (HRF.out _ (up_upOf _ _)).mono ?_); rintro e w' ⟨rfl, hux⟩))
           refine hK _ _ ?_ ?_ ?_
           · (repeat (first | with_reducible exact Up.refl _ | with_reducible refine Up.alloc ?_ _ | with_reducible refine Up.drew ?_ | with_reducible refine Up.drewN ?_ _ | with_reducible refine Up.setCell ?_ (by (try simp) <;> omega) _ | with_reducible assumption | with_reducible refine Up.trans ?_ (by assumption)))
           · rfl
           · exact tmps_at rfl
         simp only [Act.put, List.setIfInBounds_toArray, List.set_cons_succ, List.set_cons_zero]))
    refine mix_nil ?_
    intro w9 hb_w9
    simp only [fin]
    have HB9 := Lib.hid hb_w9
    have c19 := ((hb_w9.at_ _ z1).1 0).trans c1
    have f19 := ((hb_w9.at_ _ z1).2 0).trans f1
    have z19 : w2.heap.size + 1 < w9.heap.size := by have := hb_w9.size; omega
    clear hb_w9
    gi_wp2
    obtain ⟨h1, h2⟩ := HI.out
    have h2' := h2.up HB9.out
    refine ⟨(Held.of_up HB9.out HN.out).trans (h2'.held _), (h1.up2 HB9.out).set rfl _, ?_⟩
    have e9 : ((pre ++ [((kx : Int), fa)]).length : Int) = (pre.length : Int) + 1 := by simp
    rw [e9]
    exact h2'.set _
  case done =>
    rintro Dd N xs W hD hND hN0 hS ⟨hI1, hI2⟩ hK
    have h9 := HZ.out
    have zp1 := HS1.out.lt
    have zg1 := HS1.out.cells.2.1
    have zq1 := HR1.out.lt
    have zh1 := HR1.out.cells.2.1
    have hxl : xs.length = nl := by
      have : (xs.map (fun y : Int × Int => y.1)).length = (those (isAt X.L) X.L.length).length := by rw [hS]
      rw [List.length_map] at this
      rw [this]; exact HNL.out
    rw [hxl] at hI2
    have HSW := Lib.hid (HS3.out.held hI1.up (by omega) (by omega))
    have HRW := Lib.hid (HR3.out.held hI1.up (by omega) (by omega))
    have HLR := Lib.hid ((HOL3.out.reads).kept hI1.up (fun pp hpp e => by have := HOL.out.at_ pp hpp; have h8 := HZ2.out; omega))
    have hk0 := hI1.up.at_ w.heap.size (by omega) (by omega)
    have HRES := Lib.hid (show BoxAt N W w.heap.size (.bool false) from ⟨(hk0.1 0).trans HB3.out.c, (hk0.2 0).trans HB3.out.f, fun e => by have := hI1.nw _ e; omega⟩)
    have HCI := Lib.hid hI2.c
    have HCL := Lib.hid (((hI1.up.at_ w2.heap.size (by omega) (by omega)).1 0).trans HBL.out.c)
    have HCX := Lib.hid (((hI1.up.at_ w1.heap.size (by omega) (by omega)).1 0).trans HBX3.out.c)
    have HZW := Lib.hid (show w2.heap.size + 1 < W.heap.size ∧ w.heap.size ≤ Dd ∧ w.heap.size < Dd ∧ Dd < W.heap.size from by
      have h8 := hI1.up.size
      have h7 : Dd < W.heap.size := (Array.getElem?_eq_some_iff.1 hK).1
      exact ⟨by omega, by omega, by omega, h7⟩)
    have HKD := Lib.hid hK
    have HND := Lib.hid hND
    have HUWW := Lib.hid (HUW.out.keep hI1.up (fun i hi => by omega))
    clear hI1 hI2 hK hND hN0 hS hk0 hxl h9 zp1 zg1 zq1 zh1
    have hcL : (cL : Int) ≤ 9223372036854775807 := by have := HMX.out; simp [maxLen] at this; omega
    have hleL := HLE.out
    have HALE := Lib.hid (allTo_le HOK.out)
    have HOLE := Lib.hid (opnTo_le HOK.out)
    have c2 := HCL.out
    have z2 := HZW.out.1
    have z2b : w2.heap.size < W.heap.size := by omega
    go_wp2_with fail
    go_loopw [12, 16, 59] (fun al op i wr => ∃ j : Nat, j ≤ nl ∧ al = .int .i64 (allTo X (X.attrs.take j) : Int) ∧ op = .int .i64 (opnTo X (X.attrs.take j) : Int) ∧ i = .int .i64 (j : Int) ∧ Up W wr) (fun _ _ i _ => nl - (intOf i).toNat)
    case atStart => exact ⟨0, by omega, by simp [allTo], by simp [opnTo], rfl, Up.refl _⟩
    case round =>
      obtain ⟨j, hj, rfl, rfl, rfl, huj⟩ := hrel
      have HUJ := Lib.hid huj
      have zj := huj.size
      have hta : (X.attrs.take j).length = j := by rw [List.length_take, HNL.out]; omega
      have ha1 := HALE.out (X.attrs.take j)
      have ha2 := HOLE.out (X.attrs.take j)
      rw [hta] at ha1 ha2
      by_cases hlt : j < nl
      · obtain ⟨x, hx⟩ : ∃ x, X.attrs[j]? = some x := ⟨_, List.getElem?_eq_getElem (by rw [HNL.out]; omega)⟩
        have htk : X.attrs.take (j + 1) = X.attrs.take j ++ [x] := by
          obtain ⟨h1, h2⟩ := List.getElem?_eq_some_iff.1 hx
          rw [List.take_succ_eq_append_getElem h1, h2]
        have HTA := Lib.hid (show allTo X (X.attrs.take (j + 1)) = allTo X (X.attrs.take j) + (1 + (X.places x).length) by rw [htk]; exact allTo_snoc X _ _)
        have HTO := Lib.hid (show opnTo X (X.attrs.take (j + 1)) = opnTo X (X.attrs.take j) + X.opn x by rw [htk]; exact opnTo_snoc X _ _)
        obtain ⟨kx, rfl, hkx, -⟩ := mem_those.1 (show x ∈ those (isAt X.L) X.L.length from List.mem_of_getElem? hx)
        have hrd := HLR.out.up huj
        obtain ⟨bl, ol, rfl, hbl⟩ := hrd.form (by rw [HNL.out]; omega)
        have hxl : wr.cell? ⟨bl, ol + j, none⟩ = some (.int .i64 (kx : Int)) := by
          obtain ⟨_, u, hu, hcu⟩ := hrd.at_ (j := j) (by rw [HNL.out]; omega)
          unfold ns at hu
          rw [List.getElem?_map, hx] at hu
          rw [hcu]; exact hu.symm
        have HOPX := Lib.hid (show X.opn (kx : Int) = if fP (X.at_ (kx : Int)).fa then 0 else (X.places (kx : Int)).length from rfl)
        have HSJ := Lib.hid (HSW.out.up huj)
        have HRJ := Lib.hid (HRW.out.up huj)
        have hpl := places_len HOK.out (kx : Int)
        have hsm := HOK.out.small
        have HCP := Lib.hid (fun W' b b2 (h1 : SAt W' p g X) h2 h3 h4 h5 h6 => collect_places (b := b) (b2 := b2) (a := (kx : Int)) h1 HOK.out h2 h3 h4 h5 h6)
        have HRP := Lib.hid (fun W' (h' : RAt W' q h X) => rplaces_is (kx : Int) h' HOK.out)
        have HFL := Lib.hid (fun W' (h' : SAt W' p g X) => flength_is (kx : Int) h' HOK.out)
        have HFT := Lib.hid (fun W' (h' : SAt W' p g X) => ftext_is (kx : Int) h' HOK.out)
        have HRT := Lib.hid (fun W' (h' : RAt W' q h X) => rtext_is (kx : Int) h' HOK.out)
        have HTB := Lib.hid (text_bd HOK.out (kx : Int))
        have HRF := Lib.hid (fun W' (h' : RAt W' q h X) => rfield_is h' HOK.out hkx (f := (X.at_ (kx : Int)).fa) rfl)
        obtain ⟨P, hP⟩ : ∃ P, X.places (kx : Int) = P := ⟨_, rfl⟩
        obtain ⟨TX, hTX⟩ : ∃ TX, X.text (kx : Int) = TX := ⟨_, rfl⟩
        rw [hP] at HTA HOPX hpl HCP HRP HFL
        rw [hTX] at HFT HRT HTB
        obtain ⟨np, hnp⟩ : ∃ np, P.length = np := ⟨_, rfl⟩
        have HNP := Lib.hid hnp
        obtain ⟨S1, hS1⟩ : ∃ S1, allTo X (X.attrs.take j) = S1 := ⟨_, rfl⟩
        obtain ⟨S2, hS2⟩ : ∃ S2, opnTo X (X.attrs.take j) = S2 := ⟨_, rfl⟩
        rw [hS1] at ha1 HTA ⊢
        rw [hS2] at ha2 HTO ⊢
        rw [hnp] at hpl HOPX HTA
        have hS1b : S1 ≤ 13000000 := by omega
        have hS2b : S2 ≤ 13000000 := by omega
        have hnpb : np ≤ 3564 := by omega
        have hnp6 : P.length ≤ 65536 := by omega
        have hjn : (j : Int) < (nl : Int) := by omega
        have zbl : bl < wr.heap.size := by omega
        clear hta ha1 ha2 htk hx hrd hP hTX hS1 hS2 hpl huj c2 hnp
        go_wp2_with fail
        refine (places_val _ _ _).mono ?_
        rintro e w4 ⟨b4, b5, rfl, hb4, hb5, hz4, hc4, hc5, hf5, hu4⟩
        have hzs := HSJ.out.lt
        have hzg := HSJ.out.cells.2.1
        have HCC := Lib.hid (HCP.out _ _ _ (HSJ.out.up hu4) hc4 hc5 hf5 (by omega) (by omega))
        have HU4 := Lib.hid hu4
        have HZ4 := Lib.hid (show wr.heap.size ≤ b5 by omega)
        clear hb4 hb5 hz4 hc4 hc5 hf5 hu4 hzs hzg
        go_wp2_with fail
        refine HCC.out.mono ?_
        rintro e w5 ⟨A5, c5, rfl, hown5, hk5⟩
        have HO5 := Lib.hid hown5
        have HU5 := Lib.hid (HU4.out.keep hk5 (fun i hi => by have := HZ4.out; omega))
        have hle5 := hown5.le
        have hc5 : (c5 : Int) ≤ 9223372036854775807 := by have := hown5.mx; simp [maxLen] at this; omega
        have HUW5 := Lib.hid (HUJ.out.trans HU5.out)
        have c3 := ((HUW5.out.at_ w1.heap.size (by have := HZW.out; have := HZ.out; omega)).1 0).trans HCX.out
        have z5 := HUW5.out.size
        have z3 : w1.heap.size < w5.heap.size := by have := HZW.out; have := HZ.out; omega
        have HS5 := Lib.hid (HSW.out.up HUW5.out)
        have HR5 := Lib.hid (HRW.out.up HUW5.out)
        rw [HNP.out] at hle5 ⊢
        have HO5n := Lib.hid (fun W' (hu : Up w5 W') => (show Reads W' W'.heap.size 1 A5 np (ns P) from by rw [← HNP.out]; exact (hown5.up hu).reads))
        clear hown5 hk5 HCC
        go_wp2_with fail
        refine wp_region_mix (NS := [(70, RMs P), (84, RSl TX), (87, RSl TX)]) [70, 84, 87] rfl (by kernel_rfl) (by kernel_rfl) (by simp) (by intro p hp; simp only [List.mem_cons, List.mem_nil_iff, or_false] at hp; rcases hp with rfl | rfl | rfl; all_goals (first | exact rsl_up _ | exact rptr_up _ | exact rms_up _ | exact spanAt_up _ _ _ _ _ | exact rcs_up _ | exact rfb_up _ _)) ?_
        repeat (first
          | (refine mix_skip rfl rfl ?_; simp only [Act.put, List.setIfInBounds_toArray, List.set_cons_succ, List.set_cons_zero])
          | (refine mix_q rfl rfl rfl (by kernel_rfl) rfl rfl rfl ?_
             apply Exists.intro
             refine ⟨fun Wm => ?_, ?_⟩
             · simp only [fin]
               repeat (rintro (vm : Value) hvm; first | (obtain ⟨gm, om, rfl, hgm, hcm⟩ := hvm) | (obtain ⟨gm, om, cm, rfl, h2m, hxm, hgm, hcm, hdm⟩ := rsl_two hvm) | (obtain ⟨Am, nm, cm, rfl, hnm, hlm, hmm, hrm⟩ := hvm; (try simp only [List.length_cons, List.length_nil, Nat.zero_add, Nat.reduceAdd] at hnm); subst hnm) | (have hvs := hvm; obtain ⟨bm1, bm2, bm3, rfl, hbl, hbz, hbc⟩ := hvm))
               intro K hK
               go_wp2_with ((first | (go_at_call 75; (with_reducible refine (HRP.out _ (HR5.out.up (up_upOf _ _))).mono ?_); rintro e w' ⟨Ax, cx, rfl, hRx, hux⟩; have hRy := OwnI.told hRx) | (go_at_call 58; (with_reducible refine (eq_ms (HO5n.out _ (up_upOf _ _)) (by assumption) hnp6).mono ?_); rintro e w' ⟨rfl, hux⟩) | (go_at_call 76; (with_reducible refine (HFL.out _ (HS5.out.up (up_upOf _ _))).mono ?_); rw [HNP.out]; rintro e w' ⟨rfl, hux⟩) | (go_at_call 78; (with_reducible refine (HFT.out _ (HS5.out.up (up_upOf _ _))).mono ?_); rintro e w' ⟨Ax, cx, rfl, hRx, hux⟩; have hRy := OwnB.told hRx) | (go_at_call 79; (with_reducible refine (HRT.out _ (HR5.out.up (up_upOf _ _))).mono ?_); rintro e w' ⟨Ax, cx, rfl, hRx, hux⟩; have hRy := OwnB.told hRx) | (go_at_call 77; (with_reducible refine (same_two (by assumption) (by assumption) HTB.out).mono ?_); rintro e w' ⟨rfl, rfl⟩)))
               refine hK _ _ ?_ ?_ ?_
               · (repeat (first | with_reducible exact Up.refl _ | with_reducible refine Up.alloc ?_ _ | with_reducible refine Up.drew ?_ | with_reducible refine Up.drewN ?_ _ | with_reducible refine Up.setCell ?_ (by (try simp) <;> omega) _ | with_reducible assumption | with_reducible refine Up.trans ?_ (by assumption)))
               · rfl
               · exact tmps_at rfl
             simp only [Act.put, List.setIfInBounds_toArray, List.set_cons_succ, List.set_cons_zero])
          | (refine mix_n rfl rfl rfl (by kernel_rfl) rfl rfl rfl ?_ ?_
             · intro Wm
               simp only [fin]
               repeat (rintro (vm : Value) hvm; first | (obtain ⟨gm, om, rfl, hgm, hcm⟩ := hvm) | (obtain ⟨gm, om, cm, rfl, h2m, hxm, hgm, hcm, hdm⟩ := rsl_two hvm) | (obtain ⟨Am, nm, cm, rfl, hnm, hlm, hmm, hrm⟩ := hvm; (try simp only [List.length_cons, List.length_nil, Nat.zero_add, Nat.reduceAdd] at hnm); subst hnm) | (have hvs := hvm; obtain ⟨bm1, bm2, bm3, rfl, hbl, hbz, hbc⟩ := hvm))
               intro K hK
               go_wp2_with ((first | (go_at_call 75; (with_reducible refine (HRP.out _ (HR5.out.up (up_upOf _ _))).mono ?_); rintro e w' ⟨Ax, cx, rfl, hRx, hux⟩; have hRy := OwnI.told hRx) | (go_at_call 58; (with_reducible refine (eq_ms (HO5n.out _ (up_upOf _ _)) (by assumption) hnp6).mono ?_); rintro e w' ⟨rfl, hux⟩) | (go_at_call 76; (with_reducible refine (HFL.out _ (HS5.out.up (up_upOf _ _))).mono ?_); rw [HNP.out]; rintro e w' ⟨rfl, hux⟩) | (go_at_call 78; (with_reducible refine (HFT.out _ (HS5.out.up (up_upOf _ _))).mono ?_); rintro e w' ⟨Ax, cx, rfl, hRx, hux⟩; have hRy := OwnB.told hRx) | (go_at_call 79; (with_reducible refine (HRT.out _ (HR5.out.up (up_upOf _ _))).mono ?_); rintro e w' ⟨Ax, cx, rfl, hRx, hux⟩; have hRy := OwnB.told hRx) | (go_at_call 77; (with_reducible refine (same_two (by assumption) (by assumption) HTB.out).mono ?_); rintro e w' ⟨rfl, rfl⟩)))
               apply hK
               · (repeat (first | with_reducible exact Up.refl _ | with_reducible refine Up.alloc ?_ _ | with_reducible refine Up.drew ?_ | with_reducible refine Up.drewN ?_ _ | with_reducible refine Up.setCell ?_ (by (try simp) <;> omega) _ | with_reducible assumption | with_reducible refine Up.trans ?_ (by assumption)))
               · rfl
               · exact tmps_at rfl
               · first | exact rsl_lit _ _ _ _ _ _ rfl rfl (by simp [maxLen]) rfl | exact ⟨_, _, rfl, hgm, hcm⟩ | exact ⟨_, _, rfl, hgm, hdm⟩ | assumption
             simp only [Act.put, List.setIfInBounds_toArray, List.set_cons_succ, List.set_cons_zero]))
        refine mix_nil ?_
        intro w6 hb_w6
        simp only [fin]
        intro vm_w6_0 hvm_w6_0
        intro vm_w6_1 hvm_w6_1
        intro vm_w6_2 hvm_w6_2
        simp only [Act.put, List.setIfInBounds_toArray, List.set_cons_succ, List.set_cons_zero]
        have hu_w6 : Up w5 w6 := by (repeat (first | with_reducible exact Up.refl _ | with_reducible refine Up.alloc ?_ _ | with_reducible refine Up.drew ?_ | with_reducible refine Up.drewN ?_ _ | with_reducible refine Up.setCell ?_ (by (try simp) <;> omega) _ | with_reducible assumption | with_reducible refine Up.trans ?_ (by assumption)))
        have hz_w6 := Up.size hb_w6
        try simp at hz_w6
        obtain ⟨bc_w6_0, bf_w6_0⟩ := hu_w6.at_ (w1.heap.size) (by omega)
        have zb_w6_0 : w1.heap.size < w6.heap.size := by omega
        go_wp2_with fail
        have HU6 := Lib.hid (HUW5.out.trans hb_w6)
        have HF6 := Lib.hid (HRF.out _ (HR5.out.up hb_w6))
        have fR := fldR0
        obtain ⟨f, hf⟩ : ∃ f, (X.at_ (kx : Int)).fa = f := ⟨_, rfl⟩
        rw [hf] at HF6 HOPX
        clear hf
        obtain ⟨b0, hb0⟩ : ∃ b0, fP f = b0 := ⟨_, rfl⟩
        rw [hb0] at HF6 HOPX
        clear hb0
        refine HF6.out.mono ?_
        rintro e w7 ⟨rfl, hu7⟩
        have HU7 := Lib.hid (HU6.out.trans hu7)
        clear hu7
        cases b0
        · go_wp2_with fail
          go_roundw
          case rel => exact ⟨j + 1, by omega, by rw [HTA.out]; go_num, by rw [HTO.out, HOPX.out]; go_num, by go_num, HU7.out⟩
          case measure => simp [intOf]; omega
        · go_wp2_with fail
          go_roundw
          case rel => exact ⟨j + 1, by omega, by rw [HTA.out]; go_num, by rw [HTO.out, HOPX.out]; simp, by go_num, HU7.out⟩
          case measure => simp [intOf]; omega
      · obtain rfl : j = nl := by omega
        have htk : X.attrs.take j = X.attrs := List.take_of_length_le (by rw [HNL.out]; omega)
        rw [htk] at ha1 ha2 ⊢
        have HALL := Lib.hid (fun h => all_is HOK.out h)
        have HUN := Lib.hid (fun W' (h' : SAt W' p g X) => funprot_is h' HOK.out)
        have HRP := Lib.hid (fun W' (h' : RAt W' q h X) => rplaces_is nn h' HOK.out)
        have HPL := Lib.hid (fun W' (h' : SAt W' p g X) most K h1 h2 hKK => lplaces_is (a := nn) (most := most) (K := K) h' HOK.out h1 h2 hKK)
        have hpl := places_len HOK.out nn
        have hsm := HOK.out.small
        have hbg := HOK.out.big
        obtain ⟨P, hP⟩ : ∃ P, X.places nn = P := ⟨_, rfl⟩
        rw [hP] at HRP HPL hpl
        obtain ⟨M, hM⟩ : ∃ M, X.L.length = M := ⟨_, rfl⟩
        have HM := Lib.hid hM
        rw [hM] at hpl hsm hbg HALL
        rw [HNL.out] at HALL
        obtain ⟨S1, hS1⟩ : ∃ S1, allTo X X.attrs = S1 := ⟨_, rfl⟩
        obtain ⟨S2, hS2⟩ : ∃ S2, opnTo X X.attrs = S2 := ⟨_, rfl⟩
        rw [hS1] at HALL ⊢
        rw [hS2] at HUN ⊢
        obtain ⟨np, hnp⟩ : ∃ np, P.length = np := ⟨_, rfl⟩
        have HNP := Lib.hid hnp
        rw [hnp] at hpl
        obtain ⟨kk, hk⟩ : ∃ kk : Nat, 1 + st % 5 = (kk : Int) := ⟨(1 + st % 5).toNat, by omega⟩
        have hkk1 : 1 ≤ kk := by omega
        have hkk2 : kk ≤ 5 := by omega
        have HKK2 := Lib.hid hk
        obtain ⟨K, hKK⟩ : ∃ K, P.take kk = K := ⟨_, rfl⟩
        have HLP := Lib.hid (fun W' (h' : SAt W' p g X) => HPL.out W' h' kk K (by omega) (by omega) hKK)
        have hkl : K.length = min kk np := by rw [← hKK, List.length_take, HNP.out]
        have hl26 : K.length ≤ 65536 := by omega
        have HRR := Lib.hid (HRW.out.up huj)
        have hSS : S1 ≤ 13000000 ∧ S2 ≤ 13000000 := by have h3 : (X.attrs).length = j := HNL.out; omega
        have c30 := ((huj.at_ w1.heap.size (by have := HZW.out; have := HZ.out; omega)).1 0).trans HCX.out
        have z30 : w1.heap.size < wr.heap.size := by have := HZW.out; have := HZ.out; omega
        clear hP hM hS1 hS2 hk htk ha1 ha2 huj c2 hnp
        go_wp2_with fail
        refine (HRP.out _ HRR.out).mono ?_
        rintro e w7 ⟨A6, c6, rfl, hown6, hu7⟩
        have HU7 := Lib.hid hu7
        have HUX := Lib.hid (HUJ.out.trans hu7)
        have hle6 := hown6.le
        have hc6 : (c6 : Int) ≤ 9223372036854775807 := by have := hown6.mx; simp [maxLen] at this; omega
        rw [HNP.out] at hle6
        have HRX : Hid (∀ k2, k2 = K.length → RMs K (.slice A6 k2 c6) w7) := Lib.hid fun k2 hk2 => by
          subst hk2
          refine ⟨A6, _, c6, rfl, rfl, trivial, trivial, ?_⟩
          have h1 := (hown6.reads).take (k := K.length) (by rw [HNP.out]; omega)
          have h2 : (ns P).take (K.length * 1) = ns K := by
            unfold ns
            rw [Nat.mul_one, ← List.map_take, hkl, ← hKK]
            rcases Nat.le_total kk np with h3 | h3
            · rw [Nat.min_eq_left h3]
            · rw [Nat.min_eq_right h3, List.take_of_length_le (by rw [HNP.out]; omega), List.take_of_length_le (by rw [HNP.out]; omega)]
          rw [h2] at h1
          exact h1
        have HKL := Lib.hid hkl
        have HS7 := Lib.hid (HSW.out.up HUX.out)
        have HR7 := HRW.out.up HUX.out
        obtain ⟨capx, q1, q2, k4⟩ := HR7.h4
        have zq7 := HR7.lt
        rw [HM.out] at q1 k4
        have hcapx : (capx : Int) ≤ 9223372036854775807 := by simp [maxLen] at q2; omega
        have h9 := HZW.out
        have h8 := HZ.out
        have d1 := ((HUX.out.at_ w1.heap.size (by omega)).1 0).trans HCX.out
        have d2 := ((HUX.out.at_ w2.heap.size (by omega)).1 0).trans HCL.out
        have d3 := ((HUX.out.at_ (w2.heap.size + 1) (by omega)).1 0).trans HCI.out
        have d4 := (HRES.out.up HUX.out).c
        have d5 := (HRES.out.up HUX.out).f
        have e1 := HUX.out.size
        have y1 : w1.heap.size < w7.heap.size := by omega
        have y2 : w2.heap.size < w7.heap.size := by omega
        have y3 : w2.heap.size + 1 < w7.heap.size := by omega
        have y4 : w.heap.size < w7.heap.size := by omega
        have hND' := HND.out
        rw [HNP.out]
        clear hKK hkl hown6 hu7 HR7 q2 e1 h8 h9
        rcases Nat.eq_zero_or_pos j with hz0 | hz0
        · have g1 : ((j : Int) == 0) = true := by simp [hz0]
          have HZZ := Lib.hid hz0
          clear hz0
          by_cases cm : kk < np
          · have HRL := Lib.hid (HRX.out kk (by have := HKL.out; omega))
            try simp only [HKK2.out]
            go_wp2_with fail
            refine wp_region_mixT 37 (NS := [(141, RMs K)]) [141] rfl (by kernel_rfl) (by kernel_rfl) (by simp) (by intro p hp; simp only [List.mem_cons, List.mem_nil_iff, or_false] at hp; rcases hp with rfl; all_goals (first | exact rsl_up _ | exact rptr_up _ | exact rms_up _ | exact spanAt_up _ _ _ _ _ | exact rcs_up _ | exact rfb_up _ _)) ?_
            simp only [List.take_succ_cons, List.take_zero, List.drop_succ_cons, List.drop_zero]
            repeat (first
              | (refine mix_skip rfl rfl ?_; simp only [Act.put, List.setIfInBounds_toArray, List.set_cons_succ, List.set_cons_zero])
              | (refine mix_q rfl rfl rfl (by kernel_rfl) rfl rfl rfl ?_
                 apply Exists.intro
                 refine ⟨fun Wm => ?_, ?_⟩
                 · simp only [fin]
                   repeat (rintro (vm : Value) hvm; first | (obtain ⟨gm, om, rfl, hgm, hcm⟩ := hvm) | (obtain ⟨gm, om, cm, rfl, h2m, hxm, hgm, hcm, hdm⟩ := rsl_two hvm) | (obtain ⟨Am, nm, cm, rfl, hnm, hlm, hmm, hrm⟩ := hvm; (try simp only [List.length_cons, List.length_nil, Nat.zero_add, Nat.reduceAdd] at hnm); subst hnm) | (have hvs := hvm; obtain ⟨bm1, bm2, bm3, rfl, hbl, hbz, hbc⟩ := hvm))
                   intro K hK
                   go_wp2_with ((first | (go_at_call 80; (with_reducible refine (HUN.out _ (HS7.out.up (up_upOf _ _))).mono ?_); rintro e w' ⟨rfl, hux⟩) | (go_at_call 81; (with_reducible refine (HLP.out _ (HS7.out.up (up_upOf _ _))).mono ?_); rintro e w' ⟨Ax, cx, rfl, hRx, hux⟩; have hRy := OwnI.told hRx) | (go_at_call 58; (with_reducible refine (eq_rms hrm (rms_up _ _ _ _ HRL.out (up_upOf _ _)) hl26).mono ?_); rintro e w' ⟨rfl, hux⟩)))
                   refine hK _ _ ?_ ?_ ?_
                   · (repeat (first | with_reducible exact Up.refl _ | with_reducible refine Up.alloc ?_ _ | with_reducible refine Up.drew ?_ | with_reducible refine Up.drewN ?_ _ | with_reducible refine Up.setCell ?_ (by (try simp) <;> omega) _ | with_reducible assumption | with_reducible refine Up.trans ?_ (by assumption)))
                   · rfl
                   · exact tmps_at rfl
                 simp only [Act.put, List.setIfInBounds_toArray, List.set_cons_succ, List.set_cons_zero])
              | (refine mix_n rfl rfl rfl (by kernel_rfl) rfl rfl rfl ?_ ?_
                 · intro Wm
                   simp only [fin]
                   repeat (rintro (vm : Value) hvm; first | (obtain ⟨gm, om, rfl, hgm, hcm⟩ := hvm) | (obtain ⟨gm, om, cm, rfl, h2m, hxm, hgm, hcm, hdm⟩ := rsl_two hvm) | (obtain ⟨Am, nm, cm, rfl, hnm, hlm, hmm, hrm⟩ := hvm; (try simp only [List.length_cons, List.length_nil, Nat.zero_add, Nat.reduceAdd] at hnm); subst hnm) | (have hvs := hvm; obtain ⟨bm1, bm2, bm3, rfl, hbl, hbz, hbc⟩ := hvm))
                   intro K hK
                   go_wp2_with ((first | (go_at_call 80; (with_reducible refine (HUN.out _ (HS7.out.up (up_upOf _ _))).mono ?_); rintro e w' ⟨rfl, hux⟩) | (go_at_call 81; (with_reducible refine (HLP.out _ (HS7.out.up (up_upOf _ _))).mono ?_); rintro e w' ⟨Ax, cx, rfl, hRx, hux⟩; have hRy := OwnI.told hRx) | (go_at_call 58; (with_reducible refine (eq_rms hrm (rms_up _ _ _ _ HRL.out (up_upOf _ _)) hl26).mono ?_); rintro e w' ⟨rfl, hux⟩)))
                   apply hK
                   · (repeat (first | with_reducible exact Up.refl _ | with_reducible refine Up.alloc ?_ _ | with_reducible refine Up.drew ?_ | with_reducible refine Up.drewN ?_ _ | with_reducible refine Up.setCell ?_ (by (try simp) <;> omega) _ | with_reducible assumption | with_reducible refine Up.trans ?_ (by assumption)))
                   · rfl
                   · exact tmps_at rfl
                   · first | exact rsl_lit _ _ _ _ _ _ rfl rfl (by simp [maxLen]) rfl | exact ⟨_, _, rfl, hgm, hcm⟩ | exact ⟨_, _, rfl, hgm, hdm⟩ | assumption
                 simp only [Act.put, List.setIfInBounds_toArray, List.set_cons_succ, List.set_cons_zero]))
            refine mix_nil ?_
            intro w9 hb_w9
            simp only [fin]
            intro vm_w9_0 hvm_w9_0
            simp only [Act.put, List.setIfInBounds_toArray, List.set_cons_succ, List.set_cons_zero]
            have hu_w9 : Up w7 w9 := by (repeat (first | with_reducible exact Up.refl _ | with_reducible refine Up.alloc ?_ _ | with_reducible refine Up.drew ?_ | with_reducible refine Up.drewN ?_ _ | with_reducible refine Up.setCell ?_ (by (try simp) <;> omega) _ | with_reducible assumption | with_reducible refine Up.trans ?_ (by assumption)))
            have hz_w9 := Up.size hb_w9
            try simp at hz_w9
            obtain ⟨bc_w9_0, bf_w9_0⟩ := hu_w9.at_ (w1.heap.size) (by omega)
            obtain ⟨bc_w9_1, bf_w9_1⟩ := hu_w9.at_ (w2.heap.size) (by omega)
            obtain ⟨bc_w9_2, bf_w9_2⟩ := hu_w9.at_ (w2.heap.size + 1) (by omega)
            obtain ⟨bc_w9_3, bf_w9_3⟩ := hu_w9.at_ (w.heap.size) (by omega)
            obtain ⟨bc_w9_4, bf_w9_4⟩ := hu_w9.at_ (q) (by omega)
            have zb_w9_0 : w1.heap.size < w9.heap.size := by omega
            have zb_w9_1 : w2.heap.size < w9.heap.size := by omega
            have zb_w9_2 : w2.heap.size + 1 < w9.heap.size := by omega
            have zb_w9_3 : w.heap.size < w9.heap.size := by omega
            have zb_w9_4 : q < w9.heap.size := by omega
            go_wp2_with fail
            have h9 := HZW.out
            have HUA := Lib.hid (HUJ.out.trans (HU7.out.trans hb_w9))
            have HBR := Lib.hid (HRES.out.up HUA.out)
            have HDN : Dd ≠ w.heap.size := by omega
            have HK1 : w9.heap[Dd]? = some (.deferred (some [])) := (HUA.out.block Dd h9.2.2.2).trans HKD.out
            have HK2 : (w9.setCell ⟨w.heap.size, 0, none⟩ (.bool true)).heap[Dd]? = some (.deferred (some [])) := (Below.heap_setCell w9 ⟨w.heap.size, 0, none⟩ _ Dd HDN).trans HK1
            have HR2 := ((HBR.out.set (.bool true)).put (.deferred none) hND').c
            refine ⟨by simp, .inl ⟨_, _, rfl, run_takeDeferred HK2, ?_⟩⟩
            refine ⟨.bool true, by simp [results, Try.results10, go_sem, HR2], rfl, ?_⟩
            exact ((HUWW.out.trans HUA.out).setCell (by simp) _).keep (keep_put (N := fun k => k = Dd) _ rfl) (fun i hi => by subst hi; omega)
          · have HRL := Lib.hid (HRX.out np (by have := HKL.out; omega))
            try simp only [HKK2.out]
            go_wp2_with fail
            refine wp_region_mixT 37 (NS := [(141, RMs K)]) [141] rfl (by kernel_rfl) (by kernel_rfl) (by simp) (by intro p hp; simp only [List.mem_cons, List.mem_nil_iff, or_false] at hp; rcases hp with rfl; all_goals (first | exact rsl_up _ | exact rptr_up _ | exact rms_up _ | exact spanAt_up _ _ _ _ _ | exact rcs_up _ | exact rfb_up _ _)) ?_
            simp only [List.take_succ_cons, List.take_zero, List.drop_succ_cons, List.drop_zero]
            repeat (first
              | (refine mix_skip rfl rfl ?_; simp only [Act.put, List.setIfInBounds_toArray, List.set_cons_succ, List.set_cons_zero])
              | (refine mix_q rfl rfl rfl (by kernel_rfl) rfl rfl rfl ?_
                 apply Exists.intro
                 refine ⟨fun Wm => ?_, ?_⟩
                 · simp only [fin]
                   repeat (rintro (vm : Value) hvm; first | (obtain ⟨gm, om, rfl, hgm, hcm⟩ := hvm) | (obtain ⟨gm, om, cm, rfl, h2m, hxm, hgm, hcm, hdm⟩ := rsl_two hvm) | (obtain ⟨Am, nm, cm, rfl, hnm, hlm, hmm, hrm⟩ := hvm; (try simp only [List.length_cons, List.length_nil, Nat.zero_add, Nat.reduceAdd] at hnm); subst hnm) | (have hvs := hvm; obtain ⟨bm1, bm2, bm3, rfl, hbl, hbz, hbc⟩ := hvm))
                   intro K hK
                   go_wp2_with ((first | (go_at_call 80; (with_reducible refine (HUN.out _ (HS7.out.up (up_upOf _ _))).mono ?_); rintro e w' ⟨rfl, hux⟩) | (go_at_call 81; (with_reducible refine (HLP.out _ (HS7.out.up (up_upOf _ _))).mono ?_); rintro e w' ⟨Ax, cx, rfl, hRx, hux⟩; have hRy := OwnI.told hRx) | (go_at_call 58; (with_reducible refine (eq_rms hrm (rms_up _ _ _ _ HRL.out (up_upOf _ _)) hl26).mono ?_); rintro e w' ⟨rfl, hux⟩)))
                   refine hK _ _ ?_ ?_ ?_
                   · (repeat (first | with_reducible exact Up.refl _ | with_reducible refine Up.alloc ?_ _ | with_reducible refine Up.drew ?_ | with_reducible refine Up.drewN ?_ _ | with_reducible refine Up.setCell ?_ (by (try simp) <;> omega) _ | with_reducible assumption | with_reducible refine Up.trans ?_ (by assumption)))
                   · rfl
                   · exact tmps_at rfl
                 simp only [Act.put, List.setIfInBounds_toArray, List.set_cons_succ, List.set_cons_zero])
              | (refine mix_n rfl rfl rfl (by kernel_rfl) rfl rfl rfl ?_ ?_
                 · intro Wm
                   simp only [fin]
                   repeat (rintro (vm : Value) hvm; first | (obtain ⟨gm, om, rfl, hgm, hcm⟩ := hvm) | (obtain ⟨gm, om, cm, rfl, h2m, hxm, hgm, hcm, hdm⟩ := rsl_two hvm) | (obtain ⟨Am, nm, cm, rfl, hnm, hlm, hmm, hrm⟩ := hvm; (try simp only [List.length_cons, List.length_nil, Nat.zero_add, Nat.reduceAdd] at hnm); subst hnm) | (have hvs := hvm; obtain ⟨bm1, bm2, bm3, rfl, hbl, hbz, hbc⟩ := hvm))
                   intro K hK
                   go_wp2_with ((first | (go_at_call 80; (with_reducible refine (HUN.out _ (HS7.out.up (up_upOf _ _))).mono ?_); rintro e w' ⟨rfl, hux⟩) | (go_at_call 81; (with_reducible refine (HLP.out _ (HS7.out.up (up_upOf _ _))).mono ?_); rintro e w' ⟨Ax, cx, rfl, hRx, hux⟩; have hRy := OwnI.told hRx) | (go_at_call 58; (with_reducible refine (eq_rms hrm (rms_up _ _ _ _ HRL.out (up_upOf _ _)) hl26).mono ?_); rintro e w' ⟨rfl, hux⟩)))
                   apply hK
                   · (repeat (first | with_reducible exact Up.refl _ | with_reducible refine Up.alloc ?_ _ | with_reducible refine Up.drew ?_ | with_reducible refine Up.drewN ?_ _ | with_reducible refine Up.setCell ?_ (by (try simp) <;> omega) _ | with_reducible assumption | with_reducible refine Up.trans ?_ (by assumption)))
                   · rfl
                   · exact tmps_at rfl
                   · first | exact rsl_lit _ _ _ _ _ _ rfl rfl (by simp [maxLen]) rfl | exact ⟨_, _, rfl, hgm, hcm⟩ | exact ⟨_, _, rfl, hgm, hdm⟩ | assumption
                 simp only [Act.put, List.setIfInBounds_toArray, List.set_cons_succ, List.set_cons_zero]))
            refine mix_nil ?_
            intro w9 hb_w9
            simp only [fin]
            intro vm_w9_0 hvm_w9_0
            simp only [Act.put, List.setIfInBounds_toArray, List.set_cons_succ, List.set_cons_zero]
            have hu_w9 : Up w7 w9 := by (repeat (first | with_reducible exact Up.refl _ | with_reducible refine Up.alloc ?_ _ | with_reducible refine Up.drew ?_ | with_reducible refine Up.drewN ?_ _ | with_reducible refine Up.setCell ?_ (by (try simp) <;> omega) _ | with_reducible assumption | with_reducible refine Up.trans ?_ (by assumption)))
            have hz_w9 := Up.size hb_w9
            try simp at hz_w9
            obtain ⟨bc_w9_0, bf_w9_0⟩ := hu_w9.at_ (w1.heap.size) (by omega)
            obtain ⟨bc_w9_1, bf_w9_1⟩ := hu_w9.at_ (w2.heap.size) (by omega)
            obtain ⟨bc_w9_2, bf_w9_2⟩ := hu_w9.at_ (w2.heap.size + 1) (by omega)
            obtain ⟨bc_w9_3, bf_w9_3⟩ := hu_w9.at_ (w.heap.size) (by omega)
            obtain ⟨bc_w9_4, bf_w9_4⟩ := hu_w9.at_ (q) (by omega)
            have zb_w9_0 : w1.heap.size < w9.heap.size := by omega
            have zb_w9_1 : w2.heap.size < w9.heap.size := by omega
            have zb_w9_2 : w2.heap.size + 1 < w9.heap.size := by omega
            have zb_w9_3 : w.heap.size < w9.heap.size := by omega
            have zb_w9_4 : q < w9.heap.size := by omega
            go_wp2_with fail
            have h9 := HZW.out
            have HUA := Lib.hid (HUJ.out.trans (HU7.out.trans hb_w9))
            have HBR := Lib.hid (HRES.out.up HUA.out)
            have HDN : Dd ≠ w.heap.size := by omega
            have HK1 : w9.heap[Dd]? = some (.deferred (some [])) := (HUA.out.block Dd h9.2.2.2).trans HKD.out
            have HK2 : (w9.setCell ⟨w.heap.size, 0, none⟩ (.bool true)).heap[Dd]? = some (.deferred (some [])) := (Below.heap_setCell w9 ⟨w.heap.size, 0, none⟩ _ Dd HDN).trans HK1
            have HR2 := ((HBR.out.set (.bool true)).put (.deferred none) hND').c
            refine ⟨by simp, .inl ⟨_, _, rfl, run_takeDeferred HK2, ?_⟩⟩
            refine ⟨.bool true, by simp [results, Try.results10, go_sem, HR2], rfl, ?_⟩
            exact ((HUWW.out.trans HUA.out).setCell (by simp) _).keep (keep_put (N := fun k => k = Dd) _ rfl) (fun i hi => by subst hi; omega)
        · have g1 : ((j : Int) == 0) = false := by simp; omega
          have HSM := HALL.out hz0
          subst HSM
          by_cases cm : kk < np
          · have HRL := Lib.hid (HRX.out kk (by have := HKL.out; omega))
            try simp only [HKK2.out]
            go_wp2_with fail
            refine wp_region_mixT 37 (NS := [(141, RMs K)]) [141] rfl (by kernel_rfl) (by kernel_rfl) (by simp) (by intro p hp; simp only [List.mem_cons, List.mem_nil_iff, or_false] at hp; rcases hp with rfl; all_goals (first | exact rsl_up _ | exact rptr_up _ | exact rms_up _ | exact spanAt_up _ _ _ _ _ | exact rcs_up _ | exact rfb_up _ _)) ?_
            simp only [List.take_succ_cons, List.take_zero, List.drop_succ_cons, List.drop_zero]
            repeat (first
              | (refine mix_skip rfl rfl ?_; simp only [Act.put, List.setIfInBounds_toArray, List.set_cons_succ, List.set_cons_zero])
              | (refine mix_q rfl rfl rfl (by kernel_rfl) rfl rfl rfl ?_
                 apply Exists.intro
                 refine ⟨fun Wm => ?_, ?_⟩
                 · simp only [fin]
                   repeat (rintro (vm : Value) hvm; first | (obtain ⟨gm, om, rfl, hgm, hcm⟩ := hvm) | (obtain ⟨gm, om, cm, rfl, h2m, hxm, hgm, hcm, hdm⟩ := rsl_two hvm) | (obtain ⟨Am, nm, cm, rfl, hnm, hlm, hmm, hrm⟩ := hvm; (try simp only [List.length_cons, List.length_nil, Nat.zero_add, Nat.reduceAdd] at hnm); subst hnm) | (have hvs := hvm; obtain ⟨bm1, bm2, bm3, rfl, hbl, hbz, hbc⟩ := hvm))
                   intro K hK
                   go_wp2_with ((first | (go_at_call 80; (with_reducible refine (HUN.out _ (HS7.out.up (up_upOf _ _))).mono ?_); rintro e w' ⟨rfl, hux⟩) | (go_at_call 81; (with_reducible refine (HLP.out _ (HS7.out.up (up_upOf _ _))).mono ?_); rintro e w' ⟨Ax, cx, rfl, hRx, hux⟩; have hRy := OwnI.told hRx) | (go_at_call 58; (with_reducible refine (eq_rms hrm (rms_up _ _ _ _ HRL.out (up_upOf _ _)) hl26).mono ?_); rintro e w' ⟨rfl, hux⟩)))
                   refine hK _ _ ?_ ?_ ?_
                   · (repeat (first | with_reducible exact Up.refl _ | with_reducible refine Up.alloc ?_ _ | with_reducible refine Up.drew ?_ | with_reducible refine Up.drewN ?_ _ | with_reducible refine Up.setCell ?_ (by (try simp) <;> omega) _ | with_reducible assumption | with_reducible refine Up.trans ?_ (by assumption)))
                   · rfl
                   · exact tmps_at rfl
                 simp only [Act.put, List.setIfInBounds_toArray, List.set_cons_succ, List.set_cons_zero])
              | (refine mix_n rfl rfl rfl (by kernel_rfl) rfl rfl rfl ?_ ?_
                 · intro Wm
                   simp only [fin]
                   repeat (rintro (vm : Value) hvm; first | (obtain ⟨gm, om, rfl, hgm, hcm⟩ := hvm) | (obtain ⟨gm, om, cm, rfl, h2m, hxm, hgm, hcm, hdm⟩ := rsl_two hvm) | (obtain ⟨Am, nm, cm, rfl, hnm, hlm, hmm, hrm⟩ := hvm; (try simp only [List.length_cons, List.length_nil, Nat.zero_add, Nat.reduceAdd] at hnm); subst hnm) | (have hvs := hvm; obtain ⟨bm1, bm2, bm3, rfl, hbl, hbz, hbc⟩ := hvm))
                   intro K hK
                   go_wp2_with ((first | (go_at_call 80; (with_reducible refine (HUN.out _ (HS7.out.up (up_upOf _ _))).mono ?_); rintro e w' ⟨rfl, hux⟩) | (go_at_call 81; (with_reducible refine (HLP.out _ (HS7.out.up (up_upOf _ _))).mono ?_); rintro e w' ⟨Ax, cx, rfl, hRx, hux⟩; have hRy := OwnI.told hRx) | (go_at_call 58; (with_reducible refine (eq_rms hrm (rms_up _ _ _ _ HRL.out (up_upOf _ _)) hl26).mono ?_); rintro e w' ⟨rfl, hux⟩)))
                   apply hK
                   · (repeat (first | with_reducible exact Up.refl _ | with_reducible refine Up.alloc ?_ _ | with_reducible refine Up.drew ?_ | with_reducible refine Up.drewN ?_ _ | with_reducible refine Up.setCell ?_ (by (try simp) <;> omega) _ | with_reducible assumption | with_reducible refine Up.trans ?_ (by assumption)))
                   · rfl
                   · exact tmps_at rfl
                   · first | exact rsl_lit _ _ _ _ _ _ rfl rfl (by simp [maxLen]) rfl | exact ⟨_, _, rfl, hgm, hcm⟩ | exact ⟨_, _, rfl, hgm, hdm⟩ | assumption
                 simp only [Act.put, List.setIfInBounds_toArray, List.set_cons_succ, List.set_cons_zero]))
            refine mix_nil ?_
            intro w9 hb_w9
            simp only [fin]
            intro vm_w9_0 hvm_w9_0
            simp only [Act.put, List.setIfInBounds_toArray, List.set_cons_succ, List.set_cons_zero]
            have hu_w9 : Up w7 w9 := by (repeat (first | with_reducible exact Up.refl _ | with_reducible refine Up.alloc ?_ _ | with_reducible refine Up.drew ?_ | with_reducible refine Up.drewN ?_ _ | with_reducible refine Up.setCell ?_ (by (try simp) <;> omega) _ | with_reducible assumption | with_reducible refine Up.trans ?_ (by assumption)))
            have hz_w9 := Up.size hb_w9
            try simp at hz_w9
            obtain ⟨bc_w9_0, bf_w9_0⟩ := hu_w9.at_ (w1.heap.size) (by omega)
            obtain ⟨bc_w9_1, bf_w9_1⟩ := hu_w9.at_ (w2.heap.size) (by omega)
            obtain ⟨bc_w9_2, bf_w9_2⟩ := hu_w9.at_ (w2.heap.size + 1) (by omega)
            obtain ⟨bc_w9_3, bf_w9_3⟩ := hu_w9.at_ (w.heap.size) (by omega)
            obtain ⟨bc_w9_4, bf_w9_4⟩ := hu_w9.at_ (q) (by omega)
            have zb_w9_0 : w1.heap.size < w9.heap.size := by omega
            have zb_w9_1 : w2.heap.size < w9.heap.size := by omega
            have zb_w9_2 : w2.heap.size + 1 < w9.heap.size := by omega
            have zb_w9_3 : w.heap.size < w9.heap.size := by omega
            have zb_w9_4 : q < w9.heap.size := by omega
            go_wp2_with fail
            have h9 := HZW.out
            have HUA := Lib.hid (HUJ.out.trans (HU7.out.trans hb_w9))
            have HBR := Lib.hid (HRES.out.up HUA.out)
            have HDN : Dd ≠ w.heap.size := by omega
            have HK1 : w9.heap[Dd]? = some (.deferred (some [])) := (HUA.out.block Dd h9.2.2.2).trans HKD.out
            have HK2 : (w9.setCell ⟨w.heap.size, 0, none⟩ (.bool true)).heap[Dd]? = some (.deferred (some [])) := (Below.heap_setCell w9 ⟨w.heap.size, 0, none⟩ _ Dd HDN).trans HK1
            have HR2 := ((HBR.out.set (.bool true)).put (.deferred none) hND').c
            refine ⟨by simp, .inl ⟨_, _, rfl, run_takeDeferred HK2, ?_⟩⟩
            refine ⟨.bool true, by simp [results, Try.results10, go_sem, HR2], rfl, ?_⟩
            exact ((HUWW.out.trans HUA.out).setCell (by simp) _).keep (keep_put (N := fun k => k = Dd) _ rfl) (fun i hi => by subst hi; omega)
          · have HRL := Lib.hid (HRX.out np (by have := HKL.out; omega))
            try simp only [HKK2.out]
            go_wp2_with fail
            refine wp_region_mixT 37 (NS := [(141, RMs K)]) [141] rfl (by kernel_rfl) (by kernel_rfl) (by simp) (by intro p hp; simp only [List.mem_cons, List.mem_nil_iff, or_false] at hp; rcases hp with rfl; all_goals (first | exact rsl_up _ | exact rptr_up _ | exact rms_up _ | exact spanAt_up _ _ _ _ _ | exact rcs_up _ | exact rfb_up _ _)) ?_
            simp only [List.take_succ_cons, List.take_zero, List.drop_succ_cons, List.drop_zero]
            repeat (first
              | (refine mix_skip rfl rfl ?_; simp only [Act.put, List.setIfInBounds_toArray, List.set_cons_succ, List.set_cons_zero])
              | (refine mix_q rfl rfl rfl (by kernel_rfl) rfl rfl rfl ?_
                 apply Exists.intro
                 refine ⟨fun Wm => ?_, ?_⟩
                 · simp only [fin]
                   repeat (rintro (vm : Value) hvm; first | (obtain ⟨gm, om, rfl, hgm, hcm⟩ := hvm) | (obtain ⟨gm, om, cm, rfl, h2m, hxm, hgm, hcm, hdm⟩ := rsl_two hvm) | (obtain ⟨Am, nm, cm, rfl, hnm, hlm, hmm, hrm⟩ := hvm; (try simp only [List.length_cons, List.length_nil, Nat.zero_add, Nat.reduceAdd] at hnm); subst hnm) | (have hvs := hvm; obtain ⟨bm1, bm2, bm3, rfl, hbl, hbz, hbc⟩ := hvm))
                   intro K hK
                   go_wp2_with ((first | (go_at_call 80; (with_reducible refine (HUN.out _ (HS7.out.up (up_upOf _ _))).mono ?_); rintro e w' ⟨rfl, hux⟩) | (go_at_call 81; (with_reducible refine (HLP.out _ (HS7.out.up (up_upOf _ _))).mono ?_); rintro e w' ⟨Ax, cx, rfl, hRx, hux⟩; have hRy := OwnI.told hRx) | (go_at_call 58; (with_reducible refine (eq_rms hrm (rms_up _ _ _ _ HRL.out (up_upOf _ _)) hl26).mono ?_); rintro e w' ⟨rfl, hux⟩)))
                   refine hK _ _ ?_ ?_ ?_
                   · (repeat (first | with_reducible exact Up.refl _ | with_reducible refine Up.alloc ?_ _ | with_reducible refine Up.drew ?_ | with_reducible refine Up.drewN ?_ _ | with_reducible refine Up.setCell ?_ (by (try simp) <;> omega) _ | with_reducible assumption | with_reducible refine Up.trans ?_ (by assumption)))
                   · rfl
                   · exact tmps_at rfl
                 simp only [Act.put, List.setIfInBounds_toArray, List.set_cons_succ, List.set_cons_zero])
              | (refine mix_n rfl rfl rfl (by kernel_rfl) rfl rfl rfl ?_ ?_
                 · intro Wm
                   simp only [fin]
                   repeat (rintro (vm : Value) hvm; first | (obtain ⟨gm, om, rfl, hgm, hcm⟩ := hvm) | (obtain ⟨gm, om, cm, rfl, h2m, hxm, hgm, hcm, hdm⟩ := rsl_two hvm) | (obtain ⟨Am, nm, cm, rfl, hnm, hlm, hmm, hrm⟩ := hvm; (try simp only [List.length_cons, List.length_nil, Nat.zero_add, Nat.reduceAdd] at hnm); subst hnm) | (have hvs := hvm; obtain ⟨bm1, bm2, bm3, rfl, hbl, hbz, hbc⟩ := hvm))
                   intro K hK
                   go_wp2_with ((first | (go_at_call 80; (with_reducible refine (HUN.out _ (HS7.out.up (up_upOf _ _))).mono ?_); rintro e w' ⟨rfl, hux⟩) | (go_at_call 81; (with_reducible refine (HLP.out _ (HS7.out.up (up_upOf _ _))).mono ?_); rintro e w' ⟨Ax, cx, rfl, hRx, hux⟩; have hRy := OwnI.told hRx) | (go_at_call 58; (with_reducible refine (eq_rms hrm (rms_up _ _ _ _ HRL.out (up_upOf _ _)) hl26).mono ?_); rintro e w' ⟨rfl, hux⟩)))
                   apply hK
                   · (repeat (first | with_reducible exact Up.refl _ | with_reducible refine Up.alloc ?_ _ | with_reducible refine Up.drew ?_ | with_reducible refine Up.drewN ?_ _ | with_reducible refine Up.setCell ?_ (by (try simp) <;> omega) _ | with_reducible assumption | with_reducible refine Up.trans ?_ (by assumption)))
                   · rfl
                   · exact tmps_at rfl
                   · first | exact rsl_lit _ _ _ _ _ _ rfl rfl (by simp [maxLen]) rfl | exact ⟨_, _, rfl, hgm, hcm⟩ | exact ⟨_, _, rfl, hgm, hdm⟩ | assumption
                 simp only [Act.put, List.setIfInBounds_toArray, List.set_cons_succ, List.set_cons_zero]))
            refine mix_nil ?_
            intro w9 hb_w9
            simp only [fin]
            intro vm_w9_0 hvm_w9_0
            simp only [Act.put, List.setIfInBounds_toArray, List.set_cons_succ, List.set_cons_zero]
            have hu_w9 : Up w7 w9 := by (repeat (first | with_reducible exact Up.refl _ | with_reducible refine Up.alloc ?_ _ | with_reducible refine Up.drew ?_ | with_reducible refine Up.drewN ?_ _ | with_reducible refine Up.setCell ?_ (by (try simp) <;> omega) _ | with_reducible assumption | with_reducible refine Up.trans ?_ (by assumption)))
            have hz_w9 := Up.size hb_w9
            try simp at hz_w9
            obtain ⟨bc_w9_0, bf_w9_0⟩ := hu_w9.at_ (w1.heap.size) (by omega)
            obtain ⟨bc_w9_1, bf_w9_1⟩ := hu_w9.at_ (w2.heap.size) (by omega)
            obtain ⟨bc_w9_2, bf_w9_2⟩ := hu_w9.at_ (w2.heap.size + 1) (by omega)
            obtain ⟨bc_w9_3, bf_w9_3⟩ := hu_w9.at_ (w.heap.size) (by omega)
            obtain ⟨bc_w9_4, bf_w9_4⟩ := hu_w9.at_ (q) (by omega)
            have zb_w9_0 : w1.heap.size < w9.heap.size := by omega
            have zb_w9_1 : w2.heap.size < w9.heap.size := by omega
            have zb_w9_2 : w2.heap.size + 1 < w9.heap.size := by omega
            have zb_w9_3 : w.heap.size < w9.heap.size := by omega
            have zb_w9_4 : q < w9.heap.size := by omega
            go_wp2_with fail
            have h9 := HZW.out
            have HUA := Lib.hid (HUJ.out.trans (HU7.out.trans hb_w9))
            have HBR := Lib.hid (HRES.out.up HUA.out)
            have HDN : Dd ≠ w.heap.size := by omega
            have HK1 : w9.heap[Dd]? = some (.deferred (some [])) := (HUA.out.block Dd h9.2.2.2).trans HKD.out
            have HK2 : (w9.setCell ⟨w.heap.size, 0, none⟩ (.bool true)).heap[Dd]? = some (.deferred (some [])) := (Below.heap_setCell w9 ⟨w.heap.size, 0, none⟩ _ Dd HDN).trans HK1
            have HR2 := ((HBR.out.set (.bool true)).put (.deferred none) hND').c
            refine ⟨by simp, .inl ⟨_, _, rfl, run_takeDeferred HK2, ?_⟩⟩
            refine ⟨.bool true, by simp [results, Try.results10, go_sem, HR2], rfl, ?_⟩
            exact ((HUWW.out.trans HUA.out).setCell (by simp) _).keep (keep_put (N := fun k => k = Dd) _ rfl) (fun i hi => by subst hi; omega)
end Go.Proofs.Ytjokcfenncogkaa
