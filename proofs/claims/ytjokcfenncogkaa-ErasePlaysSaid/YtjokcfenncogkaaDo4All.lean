/-
  erase's all. No condition.
  erase's Range. No condition.
  erase's Repeat. No condition.
  Plain: what is left when all that isn't protected went. No condition.
  Plain: what was erased once isn't changed by erasing it again. No condition.
  field's Fields as an iterator. No condition.
  A range over a function within a round of another: as range_n, with one block of its own. No condition.
  erase's Unprotected. No condition.
  The law's do, of the four that go twice. No condition.
-/
import Derived.Test.YtjokcfenncogkaaBk14
import Derived.Test.YtjokcfenncogkaaCollN
import Derived.Test.YtjokcfenncogkaaPlaces13
import Derived.Test.YtjokcfenncogkaaMixIn
import Derived.Test.YtjokcfenncogkaaRf
import Derived.RangeFuncNested
import Derived.RangeFuncCalls
namespace Go.Proofs.Ytjokcfenncogkaa
open Go.RowKit
set_option linter.unusedVariables false
set_option linter.unusedSimpArgs false

def allG (X : Spc) (j : Nat) : Nat → Int := fun k => if k < j then 0 else X.ch0 k
theorem allG_b {X : Spc} (ok : X.Ok) (j k : Nat) : isB (allG X j k) := by
  unfold allG
  split
  · exact ⟨by omega, by omega⟩
  · exact ch0_b ok k
theorem allG_step {X : Spc} {j : Nat} (h : j < X.L.length) (ok : X.Ok) : updG (allG X j) (X.wrap (j : Int)) 0 = allG X (j + 1) := by
  have hw : X.wrap (j : Int) = j := by
    have := wrap_at (X := X) (x := (j : Int)) (by omega) (by have := ok.len; omega)
    omega
  funext k
  unfold updG allG
  rw [hw]
  by_cases hk : k = j
  · rw [if_pos hk, if_pos (by omega)]
  · rw [if_neg hk]
    by_cases h2 : k < j
    · rw [if_pos h2, if_pos (by omega)]
    · rw [if_neg h2, if_neg (by omega)]
def Spc.allA (X : Spc) : Spc := chs X (fun _ => 0)
theorem allG_end {X : Spc} (ok : X.Ok) : chs X (allG X X.L.length) = X.allA := chs_ext ok (fun k hk _ => by unfold allG; rw [if_pos hk])
theorem allG_zero {X : Spc} (ok : X.Ok) : chs X (allG X 0) = X := by
  rw [show allG X 0 = X.ch0 from funext fun k => by simp [allG]]
  exact ch0_is ok
theorem allA_ok {X : Spc} (ok : X.Ok) : X.allA.Ok := chs_ok ok (fun _ => ⟨by omega, by omega⟩)
set_option maxRecDepth 100000 in
set_option maxHeartbeats 3200000 in
theorem call_is {p g : Nat} {X : Spc} {w : World} (hs : SAt w p g X) (ok : X.Ok) :
    Calls Try.prog 150 #[.pointer (some ⟨p, 0, none⟩)] w fun e w' => e = .returned (.tuple #[]) ∧ SAt w' p g X.allA ∧ Keep (two p g) w w' := by
  have HS := Lib.hid hs
  have HSZ := Lib.hid (ssize_is hs)
  have HCE := Lib.hid (fun W => cells_good X.r X.c W ok.valid)
  rw [← ok.len] at HCE
  have hsm := ok.small
  have HE := Lib.hid (allG_end ok)
  have HZ := Lib.hid (allG_zero ok)
  have HPU := Lib.hid (fun (j : Nat) (hj : j < X.L.length) W (h' : SAt W p g (chs X (allG X j))) => show Calls Try.prog 31 #[.pointer (some ⟨p, 0, none⟩), .int .i64 (j : Int), .int .u8 0] W fun e w' => e = .returned (.tuple #[]) ∧ SAt w' p g (chs X (allG X (j + 1))) ∧ Keep (two p g) W w' from by
    have h1 := sput_is (j : Int) 0 h' (chs_ok ok (allG_b ok j))
    rw [chs_put ok, allG_step hj ok] at h1
    exact h1)
  obtain ⟨m, hm⟩ : ∃ m, X.L.length = m := ⟨_, rfl⟩
  rw [hm] at HCE hsm HE HPU
  clear hs ok hm
  go_enter Try.func150, Try.ntmps150
  go_wp2_with fail
  refine HSZ.out.mono ?_
  rintro e w1 ⟨rfl, hu1⟩
  have HU1 := Lib.hid hu1
  clear hu1
  go_wp2_with fail
  refine (HCE.out _).mono ?_
  rintro e w2 ⟨rfl, hu2⟩
  have HU2 := Lib.hid (HU1.out.trans hu2)
  clear hu2
  go_wp2_with fail
  go_loopw [6] (fun i wr => ∃ j : Nat, j ≤ m ∧ i = .int .i64 (j : Int) ∧ SAt wr p g (chs X (allG X j)) ∧ Keep (two p g) w wr) (fun i _ => m - (intOf i).toNat)
  case atStart => exact ⟨0, by omega, rfl, by rw [HZ.out]; exact HS.out.up HU2.out, Keep.of_up HU2.out⟩
  case round =>
    obtain ⟨j, hj, rfl, hsj, hkj⟩ := hrel
    have HSJ := Lib.hid hsj
    have HKJ := Lib.hid hkj
    clear hsj hkj
    by_cases hlt : j < m
    · have hjm : (j : Int) < (m : Int) := by omega
      have HP := Lib.hid (HPU.out j hlt wr HSJ.out)
      go_wp2_with fail
      refine HP.out.mono ?_
      rintro e w3 ⟨rfl, hs3, hk3⟩
      have HR := Lib.hid (show SAt w3 p g (chs X (allG X (j + 1))) ∧ Keep (two p g) w w3 from ⟨hs3, HKJ.out.trans hk3⟩)
      clear hs3 hk3
      go_wp2_with fail
      go_roundw
      case rel => exact ⟨j + 1, by omega, by go_num, HR.out⟩
      case measure => simp [intOf]; omega
    · obtain rfl : j = m := by omega
      go_wp2_with fail
      go_end0
      exact ⟨rfl, by rw [← HE.out]; exact HSJ.out, HKJ.out⟩
end Go.Proofs.Ytjokcfenncogkaa
namespace Go.Proofs.Ytjokcfenncogkaa
open Go.RowKit Go.Shelf
set_option linter.unusedVariables false
set_option linter.unusedSimpArgs false
attribute [local go_sem] Oper.semAt_some

/-- those of l that one may write are null -/
def rngG (X : Spc) (l : List Int) : Nat → Int := fun k => if (k : Int) ∈ l ∧ X.open_ (k : Int) = true then 0 else X.ch0 k
theorem rngG_b {X : Spc} (ok : X.Ok) (l : List Int) (k : Nat) : isB (rngG X l k) := by
  unfold rngG
  split
  · exact ⟨by omega, by omega⟩
  · exact ch0_b ok k
theorem rngG_nil (X : Spc) : rngG X [] = X.ch0 := by funext k; simp [rngG]
theorem rngG_no {X : Spc} {l : List Int} {x : Int} (h : X.open_ x = false) : rngG X (l ++ [x]) = rngG X l := by
  funext k
  unfold rngG
  by_cases hk : (k : Int) = x
  · rw [hk, h]; simp
  · simp [hk]
theorem rngG_yes {X : Spc} {l : List Int} {x : Int} (h : X.open_ x = true) (h0 : 0 ≤ x) (h1 : x < X.r * X.c) : rngG X (l ++ [x]) = updG (rngG X l) (X.wrap x) 0 := by
  have hw := wrap_at h0 h1
  funext k
  unfold updG
  by_cases hk : k = X.wrap x
  · rw [if_pos hk]
    unfold rngG
    rw [if_pos ⟨by rw [hk, hw]; simp, by rw [hk, hw]; exact h⟩]
  · rw [if_neg hk]
    have h2 : ¬ (k : Int) = x := fun e => hk (by omega)
    unfold rngG
    simp [h2]
def Spc.rngA (X : Spc) (l : List Int) : Spc := chs X (rngG X l)
theorem rngA_ok {X : Spc} (ok : X.Ok) (l : List Int) : (X.rngA l).Ok := chs_ok ok (rngG_b ok l)
structure RgI (w : World) (X : Spc) (p g bb b1 b2 b3 : Nat) (a b : Int) (N : Nat → Prop) (pre : List Int) (W : World) : Prop where
  s : SAt W p g (X.rngA pre)
  k : Keep (two p g) w W
  c1 : W.cell? ⟨bb, 0, none⟩ = some (.pointer (some ⟨p, 0, none⟩))
  se : SeeSp X.r X.c a b b1 b2 b3 W
  np : ¬ N p
  ng : ¬ N g
  n0 : ¬ N bb
  n1 : ¬ N b1
  n2 : ¬ N b2
  n3 : ¬ N b3
  nw : ∀ k, N k → w.heap.size ≤ k
theorem SeeSp.kept {r c f t : Int} {b1 b2 b3 : Nat} {E : Nat → Prop} {w W : World} (h : SeeSp r c f t b1 b2 b3 w) (hk : Keep E w W) (h1 : ¬ E b1) (h2 : ¬ E b2) (h3 : ¬ E b3) : SeeSp r c f t b1 b2 b3 W :=
  ⟨((hk.at_ _ (cell_lt h.1) h1).1 _).trans h.1, ((hk.at_ _ (cell_lt h.2.1) h1).1 _).trans h.2.1, ((hk.at_ _ (cell_lt h.2.2.1) h2).1 _).trans h.2.2.1, ((hk.at_ _ (cell_lt h.2.2.2) h3).1 _).trans h.2.2.2⟩
theorem RgI.own {w : World} {X : Spc} {p g bb b1 b2 b3 : Nat} {a b : Int} : Own2 (RgI w X p g bb b1 b2 b3 a b) := by
  rintro N N' s W W' ⟨h1, h2, h3, h4, h5, h6, h7, h8, h9, h10, h11⟩ hk hn
  have z1 := cell_lt h3
  have z2 := cell_lt h4.1
  have z3 := cell_lt h4.2.2.1
  have z4 := cell_lt h4.2.2.2
  simp only at z1 z2 z3 z4
  have zp := h1.lt
  have zg := h1.cells.2.1
  have no : ∀ k, k < W.heap.size → ¬ N k → ¬ N' k := fun k hk hN h => by
    rcases hn _ h with h | h
    · exact hN h
    · omega
  exact ⟨h1.held hk h5 h6, h2.past2 hk (fun k h => .inl (h11 k h)), ((hk.at_ bb z1 h7).1 0).trans h3, h4.kept hk h8 h9 h10, no _ zp h5, no _ zg h6, no _ z1 h7, no _ z2 h8, no _ z3 h9, no _ z4 h10, fun k h => by
    rcases hn _ h with h | h
    · exact h11 k h
    · have := h2.size; omega⟩
set_option maxRecDepth 100000 in
set_option maxHeartbeats 6400000 in
theorem crange_is {p g : Nat} {X : Spc} {w : World} {a b : Int} {len : Nat} (hlen : (len : Int) = lenN X.r X.c a b) (hs : SAt w p g X) (ok : X.Ok) :
    Calls Try.prog 107 #[.pointer (some ⟨p, 0, none⟩), .int .i64 a, .int .i64 b] w fun e w' => e = .returned (.tuple #[]) ∧ SAt w' p g (X.rngA (placesN (a % (X.r * X.c)) (X.r * X.c) len)) ∧ Keep (two p g) w w' := by
  have HS := Lib.hid hs
  have HO := Lib.hid ok
  have HX0 := Lib.hid (show X.rngA [] = X by unfold Spc.rngA; rw [rngG_nil]; exact ch0_is ok)
  have zp := hs.lt
  have zg := hs.cells.2.1
  have HSP := Lib.hid (fun b1 b2 b3 => span_good ok.valid hlen (b1 := b1) (b2 := b2) (b3 := b3))
  have HPB := Lib.hid (fun x (hx : x ∈ placesN (a % (X.r * X.c)) (X.r * X.c) len) => show 0 ≤ x ∧ x < X.r * X.c from by
    have hp := Spc.pos ok
    unfold placesN at hx
    rw [List.mem_map] at hx
    obtain ⟨i, _, rfl⟩ := hx
    exact ⟨Int.emod_nonneg _ (by omega), Int.emod_lt_of_pos _ hp⟩)
  obtain ⟨L, hL⟩ : ∃ L, placesN (a % (X.r * X.c)) (X.r * X.c) len = L := ⟨_, rfl⟩
  rw [hL] at HSP HPB ⊢
  have HSZ := Lib.hid (fun W (h' : SAt W p g X) => ssize_is h')
  clear hs ok hlen hL
  refine (callsIn_wide (n := 9)).1 ?_
  refine callsIn_of_wp_marks Try.func107 rfl trivial ?_ rfl
  simp only [Try.ntmps107, List.size_toArray, List.length_cons, List.length_nil, Nat.reduceAdd, Nat.reduceSub, Array.replicate_succ, Array.replicate_zero, List.push_toArray, List.append_toArray, List.nil_append, List.cons_append]
  refine wpIn_wide.2 ?_
  go_wp2_with fail
  refine (HSZ.out _ (HS.out.up ((Up.refl w).alloc _))).mono ?_
  rintro e w2 ⟨rfl, hu2⟩
  have c2 : w2.cell? ⟨w.heap.size, 0, none⟩ = some (.pointer (some ⟨p, 0, none⟩)) := ((hu2.at_ w.heap.size (by simp)).1 0).trans (by simp [go_sem])
  have HU2 := Lib.hid (((Up.refl w).alloc _).trans hu2)
  have z2 := hu2.size
  simp at z2
  clear hu2
  go_wp2_with fail
  refine (spann_val _ _ _ _ _).mono ?_
  rintro e w3 ⟨b1, b2, b3, rfl, ⟨g1, g2, g3, g4, g5, g6⟩, hsee, hu3⟩
  have c3 : w3.cell? ⟨w.heap.size, 0, none⟩ = some (.pointer (some ⟨p, 0, none⟩)) := ((hu3.at_ w.heap.size (by omega)).1 0).trans c2
  have HI0 := Lib.hid (show RgI w X p g w.heap.size b1 b2 b3 a b (fun _ => False) [] w3 from ⟨by rw [HX0.out]; exact HS.out.up (HU2.out.trans hu3), Keep.of_up (HU2.out.trans hu3), c3, hsee, fun h => h, fun h => h, fun h => h, fun h => h, fun h => h, fun h => h, fun k h => h.elim⟩)
  clear hu3 c2 c3 hsee
  have HB := Lib.hid (⟨g1, g2, g3⟩ : w2.heap.size ≤ b1 ∧ w2.heap.size ≤ b2 ∧ w2.heap.size ≤ b3)
  clear g1 g2 g3 g4 g5 g6
  go_wp2_with fail
  refine wpIn_wide.1 (range_n (n := 9) (gf := 166) (lb := #[.pointer (some ⟨b1, 0, none⟩), .pointer (some ⟨b2, 0, none⟩), .pointer (some ⟨b3, 0, none⟩)]) rfl enters_span (HSP.out b1 b2 b3) (fun _ => rfl)
    (fun _ => False) (fun k hk => hk.elim) (fun k hk => hk.elim) (fun _ _ => trivial)
    (RgI w X p g w.heap.size b1 b2 b3 a b) (fun _ _ _ _ => False) RgI.own (fun _ _ _ _ _ _ h _ _ => h) (fun N pre W h => h.se) HI0.out
    (fun pre x a' N W' => pre ++ [x] <+: L ∧ a' = { tmps := #[.pointer (some ⟨p, 0, none⟩), .int .i64 a, .int .i64 b, .pointer (some ⟨w.heap.size, 0, none⟩), undef, undef, .int .i64 x, .pointer (some ⟨p, 0, none⟩), .agg #[.int .i64 X.r, .int .i64 X.c], .int .i64 a, .int .i64 b, .func (.func 166) #[] #[.pointer (some ⟨b1, 0, none⟩), .pointer (some ⟨b2, 0, none⟩), .pointer (some ⟨b3, 0, none⟩)], .int .i64 x, undef, undef, undef, undef, undef, undef], defers := [] })
    (fun _ _ _ _ _ _ _ _ h _ _ => h) ?assign ?body ?done (fun _ _ _ _ _ _ _ _ _ h _ => h.elim))
  case assign =>
    rintro l N pre x W K hz hI hG hK
    have HI := Lib.hid hI
    have HG := Lib.hid hG
    clear hI hG
    gi_wp2
    exact hK _ _ (Held.refl _ _) HI.out ⟨HG.out, by simp⟩
  case body =>
    rintro l N pre x a' W hl hr hz hI ⟨hG, rfl⟩
    have HI := Lib.hid hI
    have HZ := Lib.hid hz
    have hbx := HPB.out x (hG.subset (by simp))
    have hok := rngA_ok HO.out pre
    have HNO := Lib.hid (fun (h : X.open_ x = false) => show X.rngA (pre ++ [x]) = X.rngA pre by unfold Spc.rngA; rw [rngG_no h])
    have HYES := Lib.hid (fun (h : X.open_ x = true) => show X.rngA (pre ++ [x]) = (X.rngA pre).put x 0 by
      unfold Spc.rngA; rw [rngG_yes h hbx.1 hbx.2, chs_put HO.out])
    have HOP := Lib.hid (fopen_is x hI.s hok)
    rw [show (X.rngA pre).open_ x = X.open_ x from chs_open _ _] at HOP
    have HPU := Lib.hid (fun W' (h' : SAt W' p g (X.rngA pre)) => sput_is x 0 h' hok)
    obtain ⟨op, hop⟩ : ∃ op, X.open_ x = op := ⟨_, rfl⟩
    rw [hop] at HNO HYES HOP
    have c1 := hI.c1
    have z1 := cell_lt c1
    simp only at z1
    have HFIN := Lib.hid (show ∀ W', Keep (two p g) W W' → SAt W' p g (X.rngA (pre ++ [x])) → Held N W W' ∧ RgI w X p g w.heap.size b1 b2 b3 a b N (pre ++ [x]) W' from fun W' hK hs' => by
      have h := HI.out
      have zbb := cell_lt h.c1
      have zb1 := cell_lt h.se.1
      have zb2 := cell_lt h.se.2.2.1
      have zb3 := cell_lt h.se.2.2.2
      simp only at zbb zb1 zb2 zb3
      obtain ⟨q1, q2, q3⟩ := HB.out
      have nt : ∀ k, w.heap.size ≤ k → ¬ two p g k := fun k hk e => by rcases e with rfl | rfl <;> omega
      exact ⟨Held.of_keep hK (fun k hk => ⟨HZ.out k hk, fun e => by rcases e with rfl | rfl; exact h.np hk; exact h.ng hk⟩), hs', h.k.trans hK, ((hK.at_ _ zbb (nt _ (Nat.le_refl _))).1 0).trans h.c1, h.se.kept hK (nt _ (by omega)) (nt _ (by omega)) (nt _ (by omega)), h.np, h.ng, h.n0, h.n1, h.n2, h.n3, h.nw⟩)
    have HSS := Lib.hid hI.s
    clear hI hz hG hr hl hok hop hbx
    cases op
    · gi_wp2_with (refine ⟨trivial, ?_⟩; gi_at_call 52; (with_reducible refine (CallsIn.inRound _ (callsIn_wide.2 HOP.out)).mono ?_); rintro e w9 ⟨rfl, hu9⟩; have HU9 := Lib.hid hu9; clear hu9)
      exact HFIN.out _ (Keep.of_up HU9.out) (by rw [HNO.out (by first | rfl | trivial)]; exact HSS.out.up HU9.out)
    · gi_wp2_with (first
        | (refine ⟨trivial, ?_⟩; gi_at_call 52; (with_reducible refine (CallsIn.inRound _ (callsIn_wide.2 HOP.out)).mono ?_); rintro e w9 ⟨rfl, hu9⟩; have c9 := ((hu9.at_ w.heap.size z1).1 0).trans c1; have z9 : w.heap.size < w9.heap.size := (by have := hu9.size; omega); have HU9 := Lib.hid hu9; clear hu9)
        | (refine ⟨trivial, ?_⟩; gi_at_call 31; (with_reducible refine (CallsIn.inRound _ (callsIn_wide.2 (HPU.out _ (HSS.out.up HU9.out)))).mono ?_); rintro e w10 ⟨rfl, hs10, hk10⟩; have HS10 := Lib.hid hs10; have HK10 := Lib.hid hk10; clear hs10 hk10))
      exact HFIN.out _ ((Keep.of_up HU9.out).trans HK10.out) (by rw [HYES.out (by first | rfl | trivial)]; exact HS10.out)
  case done =>
    rintro Dd N xs W hD hND hN0 hS hI hK
    have HI := Lib.hid hI
    have HK := Lib.hid hK
    have HND := Lib.hid hND
    have HSS := Lib.hid hS
    clear hI hK hND hS
    go_wp2
    refine ⟨by simp, .inl ⟨_, _, rfl, run_takeDeferred HK.out, ?_⟩⟩
    have hfin := RgI.own N N _ W (W.putObj Dd (.deferred none)) HI.out (keep_put _ HND.out) (fun k hk => .inl hk)
    have hs := hfin.s
    rw [HSS.out] at hs
    exact ⟨_, results_none rfl _ _ _, rfl, hs, hfin.k⟩
end Go.Proofs.Ytjokcfenncogkaa
namespace Go.Proofs.Ytjokcfenncogkaa
open Go.RowKit Go.Shelf
set_option linter.unusedVariables false
set_option linter.unusedSimpArgs false
attribute [local go_sem] Oper.semAt_some

/-- those of l are c -/
def Spc.repA (X : Spc) (l : List Int) (c : Cl) : Spc := l.foldl (fun Y x => Y.set x c) X
theorem repA_snoc (X : Spc) (l : List Int) (x : Int) (c : Cl) : X.repA (l ++ [x]) c = (X.repA l c).set x c := by simp [Spc.repA]
theorem repA_ok {X : Spc} (ok : X.Ok) (l : List Int) {c : Cl} (hc : c.Wf) : (X.repA l c).Ok ∧ (X.repA l c).r = X.r ∧ (X.repA l c).c = X.c := by
  unfold Spc.repA
  induction l generalizing X with
  | nil => exact ⟨ok, rfl, rfl⟩
  | cons x l ih =>
    obtain ⟨h1, h2, h3⟩ := ih (ok.set x hc)
    exact ⟨h1, h2, h3⟩
structure RpI (w : World) (X : Spc) (p g bb bc bn b1 b2 b3 : Nat) (a b : Int) (c : Cl) (N : Nat → Prop) (pre : List Int) (W : World) : Prop where
  s : SAt W p g (X.repA pre c)
  k : Keep (two p g) w W
  c1 : W.cell? ⟨bb, 0, none⟩ = some (.pointer (some ⟨p, 0, none⟩))
  cc : CellAt W bc 0 c
  zc : bc < W.heap.size
  cn : W.cell? ⟨bn, 0, none⟩ = some (.int .i64 (pre.length : Int))
  fn : W.frozen? ⟨bn, 0, none⟩ = false
  se : SeeSp X.r X.c a b b1 b2 b3 W
  np : ¬ N p
  ng : ¬ N g
  n0 : ¬ N bb
  nc : ¬ N bc
  nn : ¬ N bn
  n1 : ¬ N b1
  n2 : ¬ N b2
  n3 : ¬ N b3
  nw : ∀ k, N k → w.heap.size ≤ k
theorem RpI.own {w : World} {X : Spc} {p g bb bc bn b1 b2 b3 : Nat} {a b : Int} {c : Cl} : Own2 (RpI w X p g bb bc bn b1 b2 b3 a b c) := by
  rintro N N' s W W' ⟨h1, h2, h3, hcc, hzc, hcn, hfn, h4, h5, h6, h7, hnc, hnn, h8, h9, h10, h11⟩ hk hn
  have z1 := cell_lt h3
  have z2 := cell_lt h4.1
  have z3 := cell_lt h4.2.2.1
  have z4 := cell_lt h4.2.2.2
  have z6 := cell_lt hcn
  simp only at z1 z2 z3 z4 z6
  have zp := h1.lt
  have zg := h1.cells.2.1
  have no : ∀ k, k < W.heap.size → ¬ N k → ¬ N' k := fun k hk hN h => by
    rcases hn _ h with h | h
    · exact hN h
    · omega
  exact ⟨h1.held hk h5 h6, h2.past2 hk (fun k h => .inl (h11 k h)), ((hk.at_ bb z1 h7).1 0).trans h3, hcc.keep (hk.at_ bc hzc hnc).1, by have := hk.size; omega, ((hk.at_ bn z6 hnn).1 0).trans hcn, ((hk.at_ bn z6 hnn).2 0).trans hfn, h4.kept hk h8 h9 h10, no _ zp h5, no _ zg h6, no _ z1 h7, no _ hzc hnc, no _ z6 hnn, no _ z2 h8, no _ z3 h9, no _ z4 h10, fun k h => by
    rcases hn _ h with h | h
    · exact h11 k h
    · have := h2.size; omega⟩
set_option maxRecDepth 100000 in
set_option maxHeartbeats 6400000 in
theorem crepeat_is {p g : Nat} {X : Spc} {w : World} {a b : Int} {len : Nat} {c : Cl} (hcw : c.Wf) (hlen : (len : Int) = lenN X.r X.c a b) (hs : SAt w p g X) (ok : X.Ok) :
    Calls Try.prog 108 #[.pointer (some ⟨p, 0, none⟩), .int .i64 a, .int .i64 b, .agg #[.int .u8 c.ch, .bool c.at_, .int .u8 c.fa, .int .u8 c.hi, .int .u8 c.co, .int .u8 c.se]] w fun e w' => e = .returned (.int .i64 (len : Int)) ∧ SAt w' p g (X.repA (placesN (a % (X.r * X.c)) (X.r * X.c) len) c) ∧ Keep (two p g) w w' := by
  have HS := Lib.hid hs
  have zp := hs.lt
  have zg := hs.cells.2.1
  have HSP := Lib.hid (fun b1 b2 b3 => span_good ok.valid hlen (b1 := b1) (b2 := b2) (b3 := b3))
  have HLN := Lib.hid (placesN_len (a % (X.r * X.c)) (X.r * X.c) len)
  have hl36 : len ≤ 3564 := by
    obtain ⟨a0, a1, a2, a3, a4, a5⟩ := valid_facts ok.valid
    have := len_bd (f := a) (t := b) (m := X.r * X.c) (len := lenN X.r X.c a b) a4 rfl
    omega
  have HRO := Lib.hid (fun l => (repA_ok ok l hcw).1)
  have HSN := Lib.hid (fun l x => repA_snoc X l x c)
  obtain ⟨L, hL⟩ : ∃ L, placesN (a % (X.r * X.c)) (X.r * X.c) len = L := ⟨_, rfl⟩
  rw [hL] at HSP HLN ⊢
  have HSZ := Lib.hid (fun W (h' : SAt W p g X) => ssize_is h')
  have HCW := Lib.hid hcw
  have HCC := Lib.hid (show CellAt ((w.alloc (.cells #[.pointer (some ⟨p, 0, none⟩)] 27)).alloc (.cells #[.int .u8 c.ch, .bool c.at_, .int .u8 c.fa, .int .u8 c.hi, .int .u8 c.co, .int .u8 c.se] 25)) (w.heap.size + 1) 0 c from ⟨by simp [go_sem], by simp [go_sem], by simp [go_sem], by simp [go_sem], by simp [go_sem], by simp [go_sem]⟩)
  obtain ⟨ch, cat, cfa, chi, cco, cse⟩ := c
  simp only at HCC ⊢
  clear hs ok hlen hL hcw
  refine (callsIn_wide (n := 9)).1 ?_
  refine callsIn_of_wp_marks Try.func108 rfl trivial ?_ rfl
  simp only [Try.ntmps108, List.size_toArray, List.length_cons, List.length_nil, Nat.reduceAdd, Nat.reduceSub, Array.replicate_succ, Array.replicate_zero, List.push_toArray, List.append_toArray, List.nil_append, List.cons_append]
  refine wpIn_wide.2 ?_
  go_wp2_with fail
  refine (HSZ.out _ (HS.out.up ((((Up.refl w).alloc _).alloc _).alloc _))).mono ?_
  rintro e w2 ⟨rfl, hu2⟩
  have c2 : w2.cell? ⟨w.heap.size, 0, none⟩ = some (.pointer (some ⟨p, 0, none⟩)) := ((hu2.at_ w.heap.size (by simp <;> omega)).1 0).trans (by simp [go_sem])
  have cc2 : CellAt w2 (w.heap.size + 1) 0 ⟨ch, cat, cfa, chi, cco, cse⟩ := (HCC.out.keep (((Up.refl _).alloc _).at_ (w.heap.size + 1) (by simp)).1).keep (hu2.at_ (w.heap.size + 1) (by simp <;> omega)).1
  have n2 : w2.cell? ⟨w.heap.size + 2, 0, none⟩ = some (.int .i64 0) := ((hu2.at_ (w.heap.size + 2) (by simp)).1 0).trans (by simp [go_sem])
  have f2 : w2.frozen? ⟨w.heap.size + 2, 0, none⟩ = false := ((hu2.at_ (w.heap.size + 2) (by simp)).2 0).trans (by simp [go_sem])
  have HU2 := Lib.hid (((((Up.refl w).alloc _).alloc _).alloc _).trans hu2)
  have z2 := hu2.size
  simp at z2
  clear hu2
  go_wp2_with fail
  refine (spann_val _ _ _ _ _).mono ?_
  rintro e w3 ⟨b1, b2, b3, rfl, ⟨g1, g2, g3, g4, g5, g6⟩, hsee, hu3⟩
  have HI0 := Lib.hid (show RpI w X p g w.heap.size (w.heap.size + 1) (w.heap.size + 2) b1 b2 b3 a b ⟨ch, cat, cfa, chi, cco, cse⟩ (fun _ => False) [] w3 from
    ⟨HS.out.up (HU2.out.trans hu3), Keep.of_up (HU2.out.trans hu3), ((hu3.at_ _ (by omega)).1 0).trans c2, cc2.keep (hu3.at_ _ (by omega)).1, by have := hu3.size; omega, ((hu3.at_ _ (by omega)).1 0).trans n2, ((hu3.at_ _ (by omega)).2 0).trans f2, hsee, fun h => h, fun h => h, fun h => h, fun h => h, fun h => h, fun h => h, fun h => h, fun h => h, fun k h => h.elim⟩)
  clear hu3 c2 cc2 n2 f2 hsee
  have HB := Lib.hid (⟨g1, g2, g3, z2⟩ : w2.heap.size ≤ b1 ∧ w2.heap.size ≤ b2 ∧ w2.heap.size ≤ b3 ∧ _)
  clear g1 g2 g3 g4 g5 g6 z2
  go_wp2_with fail
  refine wpIn_wide.1 (range_n (n := 9) (gf := 166) (lb := #[.pointer (some ⟨b1, 0, none⟩), .pointer (some ⟨b2, 0, none⟩), .pointer (some ⟨b3, 0, none⟩)]) rfl enters_span (HSP.out b1 b2 b3) (fun _ => rfl)
    (fun _ => False) (fun k hk => hk.elim) (fun k hk => hk.elim) (fun _ _ => trivial)
    (RpI w X p g w.heap.size (w.heap.size + 1) (w.heap.size + 2) b1 b2 b3 a b ⟨ch, cat, cfa, chi, cco, cse⟩) (fun _ _ _ _ => False) RpI.own (fun _ _ _ _ _ _ h _ _ => h) (fun N pre W h => h.se) HI0.out
    (fun pre x a' N W' => pre ++ [x] <+: L ∧ a' = { tmps := #[.pointer (some ⟨p, 0, none⟩), .int .i64 a, .int .i64 b, .agg #[.int .u8 ch, .bool cat, .int .u8 cfa, .int .u8 chi, .int .u8 cco, .int .u8 cse], .pointer (some ⟨w.heap.size, 0, none⟩), undef, undef, .pointer (some ⟨w.heap.size + 1, 0, none⟩), .int .i64 0, .pointer (some ⟨w.heap.size + 2, 0, none⟩), .int .i64 x, .pointer (some ⟨p, 0, none⟩), .agg #[.int .i64 X.r, .int .i64 X.c], .int .i64 a, .int .i64 b, .func (.func 166) #[] #[.pointer (some ⟨b1, 0, none⟩), .pointer (some ⟨b2, 0, none⟩), .pointer (some ⟨b3, 0, none⟩)], .int .i64 x, undef, undef, undef, undef, undef, undef, undef], defers := [] })
    (fun _ _ _ _ _ _ _ _ h _ _ => h) ?assign ?body ?done (fun _ _ _ _ _ _ _ _ _ h _ => h.elim))
  case assign =>
    rintro l N pre x W K hz hI hG hK
    have HI := Lib.hid hI
    have HG := Lib.hid hG
    clear hI hG
    gi_wp2
    exact hK _ _ (Held.refl _ _) HI.out ⟨HG.out, by simp⟩
  case body =>
    rintro l N pre x a' W hl hr hz hI ⟨hG, rfl⟩
    have HI := Lib.hid hI
    have HZ := Lib.hid hz
    have hpl : pre.length < 3564 := by
      have h1 := hG.length_le
      rw [HLN.out] at h1
      simp at h1; omega
    have HST := Lib.hid (HSN.out pre x)
    have HSE := Lib.hid (sset_op x (d := ⟨ch, cat, cfa, chi, cco, cse⟩) rfl HCW.out hI.s (HRO.out pre) (HSN.out pre x).symm)
    have c1 := hI.c1
    have z1 := cell_lt c1
    simp only at z1
    obtain ⟨y0, y1, y2, y3, y4, y5⟩ := hI.cc
    simp only [Nat.zero_add] at y0 y1 y2 y3 y4 y5
    have zc := hI.zc
    have nt : ∀ k, w.heap.size ≤ k → ¬ two p g k := fun k hk e => by rcases e with rfl | rfl <;> omega
    have HNT := Lib.hid nt
    have n1 := hI.cn
    have zn := cell_lt n1
    simp only at zn
    obtain ⟨np, hnp⟩ : ∃ np, pre.length = np := ⟨_, rfl⟩
    have HNP := Lib.hid hnp
    rw [hnp] at n1 hpl
    have HFN := Lib.hid hI.fn
    clear hI hz hG hr hl nt hnp
    gi_wp2_with (refine ⟨trivial, ?_⟩; gi_at_call 28; (with_reducible refine (CallsIn.inRound _ (callsIn_wide.2 HSE.out)).mono ?_); rintro e w10 ⟨rfl, hs10, hk10⟩; have n10 := ((hk10.at_ _ zn (HNT.out _ (by omega))).1 0).trans n1; have f10 := ((hk10.at_ _ zn (HNT.out _ (by omega))).2 0).trans HFN.out; have z10 : w.heap.size + 2 < w10.heap.size := (by have := hk10.size; omega); have HS10 := Lib.hid hs10; have HK10 := Lib.hid hk10; clear hs10 hk10)
    have h := HI.out
    have hK := HK10.out
    have zbb := cell_lt h.c1
    have zb1 := cell_lt h.se.1
    have zb2 := cell_lt h.se.2.2.1
    have zb3 := cell_lt h.se.2.2.2
    simp only at zbb zb1 zb2 zb3
    obtain ⟨q1, q2, q3, q4⟩ := HB.out
    have nt := HNT.out
    obtain ⟨w11, hw11⟩ : ∃ w11, w10.setCell ⟨w.heap.size + 2, 0, none⟩ (.int .i64 ((np : Int) + 1)) = w11 := ⟨_, rfl⟩
    have hK2 : Keep (fun k => k = w.heap.size + 2) w10 w11 := by rw [← hw11]; exact (show Keep (fun k => k = w.heap.size + 2) w10 w10 from Keep.refl _ _).setCell (.inl rfl) _
    have hcn : w11.cell? ⟨w.heap.size + 2, 0, none⟩ = some (.int .i64 ((pre ++ [x]).length : Int)) := by rw [← hw11, World.cell?_setCell_same (h := n10)]; simp [HNP.out]
    have hfn : w11.frozen? ⟨w.heap.size + 2, 0, none⟩ = false := by rw [← hw11]; simpa [go_sem] using f10
    try rw [hw11]
    have hK3 : Keep (fun k => two p g k ∨ k = w.heap.size + 2) W w11 := (hK.mono fun k hk => .inl hk).trans (hK2.mono fun k hk => .inr hk)
    have nt3 : ∀ k, w.heap.size ≤ k → k ≠ w.heap.size + 2 → ¬ (two p g k ∨ k = w.heap.size + 2) := fun k h1 h2 h3 => by rcases h3 with h3 | h3; exact nt k h1 h3; exact h2 h3
    have zpw := h.s.lt
    have zgw := h.s.cells.2.1
    exact ⟨Held.of_keep hK3 (fun k hk => ⟨HZ.out k hk, fun e => by
        rcases e with (rfl | rfl) | rfl
        · exact h.np hk
        · exact h.ng hk
        · exact h.nn hk⟩), HS10.out.held hK2 (by omega) (by omega), (h.k.trans hK).past2 hK2 (fun k hk => .inl (by have hk' : k = w.heap.size + 2 := hk; omega)), ((hK3.at_ _ zbb (nt3 _ (by omega) (by omega))).1 0).trans h.c1, h.cc.keep (hK3.at_ _ h.zc (nt3 _ (by omega) (by omega))).1, by have := hK3.size; have := h.zc; omega, hcn, hfn, h.se.kept hK3 (nt3 _ (by omega) (by omega)) (nt3 _ (by omega) (by omega)) (nt3 _ (by omega) (by omega)), h.np, h.ng, h.n0, h.nc, h.nn, h.n1, h.n2, h.n3, h.nw⟩
  case done =>
    rintro Dd N xs W hD hND hN0 hS hI hK
    have HK := Lib.hid hK
    have HND := Lib.hid hND
    have hxl : xs.length = len := by have := HLN.out; rw [← hS] at this; exact this
    have n1 := hI.cn
    rw [hxl] at n1
    have zn := cell_lt n1
    simp only at zn
    have HSS := Lib.hid hS
    have HI := Lib.hid hI
    clear hI hK hND hS
    go_wp2
    refine ⟨by simp, .inl ⟨_, _, rfl, run_takeDeferred HK.out, ?_⟩⟩
    have hfin := RpI.own N N _ W (W.putObj Dd (.deferred none)) HI.out (keep_put _ HND.out) (fun k hk => .inl hk)
    have hs := hfin.s
    rw [HSS.out] at hs
    exact ⟨_, results_tmp rfl _ _ _, rfl, hs, hfin.k⟩
end Go.Proofs.Ytjokcfenncogkaa
namespace Go.Proofs.Ytjokcfenncogkaa
open Go.RowKit Go.Shelf
set_option linter.unusedVariables false
set_option linter.unusedSimpArgs false

def Cl.clean (d : Cl) : Cl := { d with fa := bits .andNot .u8 d.fa 1 }
theorem not_tab14 : ∀ k : Fin 256, 0 ≤ bits .andNot .u8 (k.val : Int) 1 ∧ bits .andNot .u8 (k.val : Int) 1 ≤ 255 := by decide +kernel
theorem Cl.clean_wf {d : Cl} (h : d.Wf) : d.clean.Wf := by
  have h1 := not_tab14 ⟨d.fa.toNat, by have := h.fa.2; omega⟩
  have h0 : ((d.fa.toNat : Nat) : Int) = d.fa := by have := h.fa.1; omega
  simp only [h0] at h1
  exact ⟨h.ch, h1, h.hi, h.co, h.se⟩
theorem unmod_set {Y : Spc} (ok : Y.Ok) (a : Int) : (Y.set a (Y.at_ a).clean).Ok ∧ ∀ n, (Y.set a (Y.at_ a).clean).isA n = Y.isA n := by
  refine ⟨ok.set _ (Cl.clean_wf (ok.at_wf a)), fun n => ?_⟩
  unfold Spc.isA
  rw [at_set14 ok a n]
  split
  · rename_i h
    rw [Cl.fit_at]
    rw [Spc.at_congr h]; rfl
  · rfl
/-- a field's places null -/
def Spc.nulF (Y : Spc) (l : List Int) : Spc := chs Y (endG Y.ch0 l)
theorem nulF_ok {Y : Spc} (ok : Y.Ok) (l : List Int) : (Y.nulF l).Ok := chs_ok ok (endG_b (ch0_b ok) l)
theorem nulF_nil {Y : Spc} (ok : Y.Ok) : Y.nulF [] = Y := by
  unfold Spc.nulF
  rw [show endG Y.ch0 [] = Y.ch0 from funext fun k => by simp [endG]]
  exact ch0_is ok
theorem nulF_snoc {Y : Spc} (ok : Y.Ok) {l : List Int} {x : Int} (h0 : 0 ≤ x) (h1 : x < Y.r * Y.c) : Y.nulF (l ++ [x]) = (Y.nulF l).put x 0 := by
  unfold Spc.nulF
  rw [chs_put ok]
  congr 1
  have hw := wrap_at h0 h1
  funext k
  unfold updG
  by_cases hk : k = Y.wrap x
  · rw [if_pos hk]
    unfold endG
    rw [if_pos (by rw [hk, hw]; simp)]
  · rw [if_neg hk]
    have h2 : ¬ (k : Int) = x := fun e => hk (by omega)
    unfold endG
    simp [h2]
/-- one field: null and unmodified, if it isn't protected -/
def unpS (Y : Spc) (a : Int) : Spc := if fP (Y.at_ a).fa then Y else (Y.nulF (Y.places a)).set a ((Y.nulF (Y.places a)).at_ a).clean
def unpL (X : Spc) (l : List Int) : Spc := l.foldl unpS X
theorem unpL_snoc (X : Spc) (l : List Int) (a : Int) : unpL X (l ++ [a]) = unpS (unpL X l) a := by simp [unpL]
theorem unpS_ok {Y : Spc} (ok : Y.Ok) (a : Int) : (unpS Y a).Ok ∧ Alk Y (unpS Y a) := by
  unfold unpS
  split
  · exact ⟨ok, Alk.refl Y⟩
  · have h1 := nulF_ok ok (Y.places a)
    obtain ⟨h2, h3⟩ := unmod_set h1 a
    exact ⟨h2, (chs_alk Y _).trans ⟨rfl, rfl, Spc.set_len _ _ _, h3⟩⟩
theorem unpL_ok {X : Spc} (ok : X.Ok) (l : List Int) : (unpL X l).Ok ∧ Alk X (unpL X l) := by
  unfold unpL
  induction l generalizing X with
  | nil => exact ⟨ok, Alk.refl X⟩
  | cons a l ih =>
    obtain ⟨h1, h2⟩ := unpS_ok ok a
    obtain ⟨h3, h4⟩ := ih h1
    exact ⟨h3, h2.trans h4⟩
end Go.Proofs.Ytjokcfenncogkaa
namespace Go.Proofs.Ytjokcfenncogkaa
open Go.RowKit Go.Shelf
set_option linter.unusedVariables false
set_option linter.unusedSimpArgs false

theorem set_fix {X : Spc} (ok : X.Ok) {n : Int} {c : Cl} (h : c.fit = X.at_ n) : X.set n c = X := by
  have e : X.set n c = { X with L := X.L.set (X.wrap n) (X.at_ n) } := by unfold Spc.set; rw [h]
  obtain ⟨_, h1⟩ := ok.wrap n
  have h2 : X.L.set (X.wrap n) (X.at_ n) = X.L := by
    refine List.ext_getElem? fun k => ?_
    rw [List.getElem?_set]
    split
    · rename_i hk
      subst hk
      unfold Spc.at_
      rw [List.getD, List.getElem?_eq_getElem h1]
      rfl
    · rfl
  rw [e]
  exact congrArg (fun l => ({ X with L := l } : Spc)) h2
theorem wrap_n14 {X : Spc} (ok : X.Ok) {k : Nat} (hk : k < X.L.length) : X.wrap (k : Int) = k := by
  have := wrap_at (X := X) (x := (k : Int)) (by omega) (by have := ok.len; omega)
  omega
theorem nulF_fix {Y : Spc} (ok : Y.Ok) {l : List Int} (h : ∀ k : Nat, k < Y.L.length → (k : Int) ∈ l → Y.isA (k : Int) = false → (Y.at_ (k : Int)).ch = 0) : Y.nulF l = Y := by
  unfold Spc.nulF
  rw [chs_ext ok (g' := Y.ch0) (fun k hk hA => by
    unfold endG
    split
    · rename_i hin; exact (h k hk hin hA).symm
    · rfl)]
  exact ch0_is ok
theorem nulF_ch {Y : Spc} (ok : Y.Ok) (l : List Int) {k : Nat} (hk : k < Y.L.length) (hA : Y.isA (k : Int) = false) : ((Y.nulF l).at_ (k : Int)).ch = if (k : Int) ∈ l then 0 else (Y.at_ (k : Int)).ch := by
  unfold Spc.nulF
  rw [chs_ch ok _ _ hA, wrap_n14 ok hk]
  rfl
def Dn (Y : Spc) (b : Int) : Prop := fP (Y.at_ b).fa = true ∨ ((∀ k : Nat, k < Y.L.length → (k : Int) ∈ Y.places b → Y.isA (k : Int) = false → (Y.at_ (k : Int)).ch = 0) ∧ (Y.at_ b).clean.fit = Y.at_ b)
theorem Dn.fix {Y : Spc} (ok : Y.Ok) {b : Int} (h : Dn Y b) : unpS Y b = Y := by
  unfold unpS
  split
  · rfl
  · rename_i hp
    rcases h with h | ⟨h1, h2⟩
    · exact absurd h hp
    · rw [nulF_fix ok h1, set_fix ok h2]
theorem unpS_p {Y : Spc} {a : Int} (h : fP (Y.at_ a).fa = true) : unpS Y a = Y := by unfold unpS; rw [if_pos h]
theorem unpS_n {Y : Spc} {a : Int} (h : ¬ fP (Y.at_ a).fa = true) : unpS Y a = (Y.nulF (Y.places a)).set a ((Y.nulF (Y.places a)).at_ a).clean := by unfold unpS; rw [if_neg h]
theorem clean_ch {d : Cl} (h : d.at_ = false) : d.clean.fit.ch = d.ch := by
  unfold Cl.clean Cl.fit
  simp [h]
theorem unpS_z {Y : Spc} (ok : Y.Ok) {a : Int} (hp : ¬ fP (Y.at_ a).fa = true) {k : Nat} (hk : k < Y.L.length) (hA : Y.isA (k : Int) = false) (h : (Y.at_ (k : Int)).ch = 0 ∨ (k : Int) ∈ Y.places a) : ((unpS Y a).at_ (k : Int)).ch = 0 := by
  rw [unpS_n hp]
  have e : ((Y.nulF (Y.places a)).at_ (k : Int)).ch = 0 := by
    rw [nulF_ch ok _ hk hA]
    split
    · rfl
    · rename_i hn
      rcases h with h | h
      · exact h
      · exact absurd h hn
  rw [at_set14 (nulF_ok ok _)]
  split
  · rename_i hm
    have e2 : (Y.nulF (Y.places a)).at_ a = (Y.nulF (Y.places a)).at_ (k : Int) := Spc.at_congr hm.symm
    have hA' : ((Y.nulF (Y.places a)).at_ (k : Int)).at_ = false := (chs_isA Y _ (k : Int)).trans hA
    rw [e2, clean_ch hA', e]
  · exact e
theorem clean_tab : ∀ k : Fin 256, six05 (bits .andNot .u8 (six05 (bits .andNot .u8 (k.val : Int) 1)) 1) = six05 (bits .andNot .u8 (k.val : Int) 1) := by decide +kernel
theorem clean_fit {d : Cl} (h : d.Wf) : d.clean.fit.clean.fit = d.clean.fit := by
  have h1 := clean_tab ⟨d.fa.toNat, by have := h.fa.2; omega⟩
  have h0 : ((d.fa.toNat : Nat) : Int) = d.fa := by have := h.fa.1; omega
  simp only [h0] at h1
  unfold Cl.clean Cl.fit
  cases hd : d.at_ <;> simp [h1]
theorem putC_clean {c : Cl} (h : c.clean.fit = c) (x : Int) : (putC c x).clean.fit = putC c x := by
  unfold putC
  split
  · exact h
  · rename_i hc
    have h2 := congrArg Cl.fa h
    have hc' : c.at_ = false := by simpa using hc
    unfold Cl.clean Cl.fit at h2 ⊢
    simp only [hc', Bool.false_eq_true, if_false] at h2 ⊢
    rw [← h2]
theorem unpS_at {Y : Spc} (ok : Y.Ok) {a : Int} (hp : ¬ fP (Y.at_ a).fa = true) (b : Int) : (unpS Y a).at_ b = if b % (Y.r * Y.c) = a % (Y.r * Y.c) then ((Y.nulF (Y.places a)).at_ a).clean.fit else (Y.nulF (Y.places a)).at_ b := by
  rw [unpS_n hp, at_set14 (nulF_ok ok _)]
  rfl
theorem unpS_isA {Y : Spc} (ok : Y.Ok) (a n : Int) : (unpS Y a).isA n = Y.isA n := (unpS_ok ok a).2.at_ n
theorem Dn_self {Y : Spc} (ok : Y.Ok) (a : Int) : Dn (unpS Y a) a := by
  by_cases hp : fP (Y.at_ a).fa = true
  · rw [unpS_p hp]; exact .inl hp
  · refine .inr ⟨fun k hk hin hA => ?_, ?_⟩
    · rw [(unpS_ok ok a).2.places] at hin
      rw [(unpS_ok ok a).2.len] at hk
      rw [unpS_isA ok] at hA
      exact unpS_z ok hp hk hA (.inr hin)
    · rw [unpS_at ok hp, if_pos rfl]
      exact clean_fit ((nulF_ok ok _).at_wf _)
theorem Dn_keep {Y : Spc} (ok : Y.Ok) (a : Int) {b : Int} (h : Dn Y b) : Dn (unpS Y a) b := by
  by_cases hp : fP (Y.at_ a).fa = true
  · rw [unpS_p hp]; exact h
  · by_cases hm : b % (Y.r * Y.c) = a % (Y.r * Y.c)
    · rcases h with h | ⟨h1, _⟩
      · rw [Spc.at_congr hm] at h; exact absurd h hp
      · refine .inr ⟨fun k hk hin hA => ?_, ?_⟩
        · rw [(unpS_ok ok a).2.places] at hin
          rw [(unpS_ok ok a).2.len] at hk
          rw [unpS_isA ok] at hA
          exact unpS_z ok hp hk hA (.inl (h1 k hk hin hA))
        · rw [unpS_at ok hp, if_pos hm]
          exact clean_fit ((nulF_ok ok _).at_wf _)
    · have e : (unpS Y a).at_ b = putC (Y.at_ b) (endG Y.ch0 (Y.places a) (Y.wrap b)) := by
        rw [unpS_at ok hp, if_neg hm]
        exact chs_at ok _ _
      rcases h with h | ⟨h1, h2⟩
      · exact .inl (by rw [e, putC_fa]; exact h)
      · refine .inr ⟨fun k hk hin hA => ?_, ?_⟩
        · rw [(unpS_ok ok a).2.places] at hin
          rw [(unpS_ok ok a).2.len] at hk
          rw [unpS_isA ok] at hA
          exact unpS_z ok hp hk hA (.inl (h1 k hk hin hA))
        · rw [e]; exact putC_clean h2 _
theorem unpL_cons (X : Spc) (a : Int) (l : List Int) : unpL X (a :: l) = unpL (unpS X a) l := rfl
theorem Dn_all {X : Spc} (ok : X.Ok) (l : List Int) {b : Int} (h : Dn X b) : Dn (unpL X l) b := by
  induction l generalizing X with
  | nil => exact h
  | cons a l ih => rw [unpL_cons]; exact ih (unpS_ok ok a).1 (Dn_keep ok a h)
theorem Dn_done {X : Spc} (ok : X.Ok) (l : List Int) : ∀ b ∈ l, Dn (unpL X l) b := by
  induction l generalizing X with
  | nil => intro b hb; cases hb
  | cons a l ih =>
    intro b hb
    rw [unpL_cons]
    rcases List.mem_cons.1 hb with rfl | hb
    · exact Dn_all (unpS_ok ok _).1 l (Dn_self ok _)
    · exact ih (unpS_ok ok a).1 b hb
theorem unpL_fix {X : Spc} (ok : X.Ok) : ∀ {l : List Int}, (∀ b ∈ l, Dn X b) → unpL X l = X
  | [], _ => rfl
  | a :: l, h => by
    rw [unpL_cons, (h a (by simp)).fix ok]
    exact unpL_fix ok (fun b hb => h b (by simp [hb]))
theorem Alk.attrs {X Y : Spc} (h : Alk X Y) (okX : X.Ok) (okY : Y.Ok) : Y.attrs = X.attrs := by
  unfold Spc.attrs
  rw [h.len]
  exact those_congr fun k hk => by
    rw [← Spc.isA_nat okX hk, ← Spc.isA_nat okY (by rw [h.len]; exact hk), h.at_]
theorem Alk.attrsN {X Y : Spc} (h : Alk X Y) (okX : X.Ok) (okY : Y.Ok) : attrsN Y.L = attrsN X.L := by
  rw [← attrs_len13, ← attrs_len13, h.attrs okX okY]
/-- all that isn't protected -/
def Spc.unpA (X : Spc) : Spc := if 0 < attrsN X.L then (unpL X X.attrs).place (max ((unpL X X.attrs).find (-1) 1) 0) else X.allA.place 0
theorem unpA_ok {X : Spc} (ok : X.Ok) : X.unpA.Ok := by
  unfold Spc.unpA
  split
  · exact (unpL_ok ok _).1.place _
  · exact (allA_ok ok).place _
theorem unpA_twice {X : Spc} (ok : X.Ok) : X.unpA.unpA = X.unpA := by
  by_cases h : 0 < attrsN X.L
  · obtain ⟨k1, k2⟩ := unpL_ok ok X.attrs
    have hd := Dn_done ok X.attrs
    obtain ⟨Y, hY⟩ : ∃ Y, unpL X X.attrs = Y := ⟨_, rfl⟩
    have e : X.unpA = Y.place (max (Y.find (-1) 1) 0) := by unfold Spc.unpA; rw [if_pos h, hY]
    rw [hY] at k1 k2 hd
    obtain ⟨v, hv⟩ : ∃ v, max (Y.find (-1) 1) 0 = v := ⟨_, rfl⟩
    rw [hv] at e
    rw [e]
    have ea : (Y.place v).attrs = X.attrs := (show (Y.place v).attrs = Y.attrs from rfl).trans (k2.attrs ok k1)
    have en : 0 < attrsN (Y.place v).L := by show 0 < attrsN Y.L; rw [k2.attrsN ok k1]; exact h
    unfold Spc.unpA
    rw [if_pos en, ea, unpL_fix (k1.place v) (fun b hb => hd b hb)]
    show Y.place (max (Y.find (-1) 1) 0) = _
    rw [hv]
  · have e : X.unpA = X.allA.place 0 := by unfold Spc.unpA; rw [if_neg h]
    rw [e]
    have en : ¬ 0 < attrsN (X.allA.place 0).L := by
      show ¬ 0 < attrsN X.allA.L
      unfold Spc.allA
      rw [chs_attrs]; exact h
    unfold Spc.unpA
    rw [if_neg en]
    have e2 : X.allA.allA = X.allA := by unfold Spc.allA; rw [chs_chs]
    have e3 : (X.allA.place 0).allA.place 0 = X.allA.allA.place 0 := rfl
    rw [e3, e2]
theorem rngA_twice {X : Spc} (ok : X.Ok) (l : List Int) : (X.rngA l).rngA l = X.rngA l := by
  unfold Spc.rngA
  rw [chs_chs]
  refine chs_ext ok fun k hk hA => ?_
  have h1 : (chs X (rngG X l)).open_ (k : Int) = X.open_ (k : Int) := chs_open _ _
  have h2 : (chs X (rngG X l)).ch0 k = rngG X l k := by
    unfold Spc.ch0
    rw [chs_ch ok _ _ hA, wrap_n14 ok hk]
  show (if (k : Int) ∈ l ∧ (chs X (rngG X l)).open_ (k : Int) = true then 0 else (chs X (rngG X l)).ch0 k) = rngG X l k
  rw [h1, h2]
  split
  · rename_i hy
    unfold rngG
    rw [if_pos hy]
  · rfl
theorem repA_keep {X : Spc} (ok : X.Ok) {c : Cl} (hc : c.Wf) : ∀ (l : List Int) {X : Spc}, X.Ok → ∀ {x : Int}, X.at_ x = c.fit → (X.repA l c).at_ x = c.fit
  | [], _, _, _, h => h
  | a :: l, X, ok, x, h => by
    show ((X.set a c).repA l c).at_ x = c.fit
    refine repA_keep ok hc l (ok.set a hc) ?_
    rw [at_set14 ok]
    split
    · rfl
    · exact h
theorem repA_done {c : Cl} (hc : c.Wf) : ∀ (l : List Int) {X : Spc}, X.Ok → ∀ x ∈ l, (X.repA l c).at_ x = c.fit
  | [], _, _, _, h => by cases h
  | a :: l, X, ok, x, h => by
    show ((X.set a c).repA l c).at_ x = c.fit
    rcases List.mem_cons.1 h with rfl | h
    · exact repA_keep ok hc l (ok.set x hc) (by rw [at_set14 ok, if_pos rfl])
    · exact repA_done hc l (ok.set a hc) x h
theorem repA_fix {c : Cl} {X : Spc} (ok : X.Ok) : ∀ {l : List Int}, (∀ x ∈ l, X.at_ x = c.fit) → X.repA l c = X
  | [], _ => rfl
  | a :: l, h => by
    show (X.set a c).repA l c = X
    rw [set_fix ok (h a (by simp)).symm]
    exact repA_fix ok (fun x hx => h x (by simp [hx]))
theorem repA_twice {X : Spc} (ok : X.Ok) (l : List Int) {c : Cl} (hc : c.Wf) : (X.repA l c).repA l c = X.repA l c := repA_fix (repA_ok ok l hc).1 (repA_done hc l ok)
theorem mark_tab : ∀ k : Fin 256, six05 (bits .or .u8 (six05 (bits .or .u8 (k.val : Int) 1)) 1) = six05 (bits .or .u8 (k.val : Int) 1) := by decide +kernel
theorem mark_fit {d : Cl} (h : d.Wf) : d.mark.fit.mark.fit = d.mark.fit := by
  have h1 := mark_tab ⟨d.fa.toNat, by have := h.fa.2; omega⟩
  have h0 : ((d.fa.toNat : Nat) : Int) = d.fa := by have := h.fa.1; omega
  simp only [h0] at h1
  unfold Cl.mark Cl.fit
  cases hd : d.at_ <;> simp [h1]
theorem modify_twice {X : Spc} (ok : X.Ok) (n : Int) : (X.modify n).modify n = X.modify n := by
  have hst := (modify_alk ok n).start n
  have hok := ok.modify n
  by_cases h : 0 ≤ X.start n
  · have e : (X.modify n).modify n = (X.modify n).set (X.start n) ((X.modify n).at_ (X.start n)).mark := by
      show (if 0 ≤ (X.modify n).start n then (X.modify n).set ((X.modify n).start n) ((X.modify n).at_ ((X.modify n).start n)).mark else X.modify n) = _
      rw [hst, if_pos h]
    rw [e]
    refine set_fix hok ?_
    have hr := start_range ok n
    rw [modify_at ok, if_pos ⟨h, Int.emod_eq_of_lt h (by rcases hr with hr | hr <;> omega)⟩]
    exact mark_fit (ok.at_wf _)
  · unfold Spc.modify
    rw [if_neg h, if_neg h]
theorem endA_alk {X : Spc} (ok : X.Ok) (n : Int) : Alk X (X.endA n) := (chs_alk X _).trans (modify_alk (chs_ok ok (endG_b (ch0_b ok) _)) n)
theorem endA_ok {X : Spc} (ok : X.Ok) (n : Int) : (X.endA n).Ok := (chs_ok ok (endG_b (ch0_b ok) _)).modify n
theorem endA_twice {X : Spc} (ok : X.Ok) (n : Int) : (X.endA n).endA n = X.endA n := by
  have k1 := chs_ok ok (endG_b (ch0_b ok) (X.restL n))
  have hz := endA_alk ok n
  have hok := endA_ok ok n
  have e : chs (X.endA n) (endG (X.endA n).ch0 ((X.endA n).restL n)) = X.endA n := by
    rw [chs_ext hok (g' := (X.endA n).ch0) (fun k hk hA => by
      rw [hz.restL]
      unfold endG
      split
      · rename_i hin
        have hA' : X.isA (k : Int) = false := by rw [← hz.at_]; exact hA
        have hk' : k < X.L.length := by rw [← hz.len]; exact hk
        unfold Spc.ch0 Spc.endA
        rw [modify_na k1 (by rw [chs_isA]; exact hA'), chs_ch ok _ _ hA', wrap_n14 ok hk']
        unfold endG
        rw [if_pos hin]
      · rfl)]
    exact ch0_is hok
  show (chs (X.endA n) (endG (X.endA n).ch0 ((X.endA n).restL n))).modify n = X.endA n
  rw [e]
  exact modify_twice k1 n
end Go.Proofs.Ytjokcfenncogkaa
namespace Go.Proofs.Ytjokcfenncogkaa
open Go.RowKit Go.Shelf
set_option linter.unusedVariables false
set_option linter.unusedSimpArgs false
attribute [local go_sem] Oper.semAt_some

theorem enters_fields13 : ∀ args w, (callFunc 129 args).run Try.prog w = .ok (.enter 129 args) w := enters_of Try.func129 (by kernel_rfl) rfl
theorem fields_val13 (v : Option Addr) (w : World) :
    Calls Try.prog 73 #[.pointer v] w fun e w' => ∃ b, e = .returned (.func (.func 129) #[] #[.pointer (some ⟨b, 0, none⟩)]) ∧ w.heap.size ≤ b ∧ b < w'.heap.size ∧ w'.cell? ⟨b, 0, none⟩ = some (.pointer v) ∧ w'.frozen? ⟨b, 0, none⟩ = false ∧ Up w w' := by
  go_enter Try.func73, Try.ntmps73
  go_wp2
  go_ret
  exact ⟨w.heap.size, rfl, Nat.le_refl _, by simp, by simp [go_sem], by simp [go_sem], by (repeat (first | with_reducible exact Up.refl _ | with_reducible refine Up.alloc ?_ _ | with_reducible refine Up.drew ?_ | with_reducible refine Up.drewN ?_ _ | with_reducible refine Up.setCell ?_ (by (try simp) <;> omega) _ | with_reducible assumption | with_reducible refine Up.trans ?_ (by assumption)))⟩
/-- a field: its attribute's place, and the attribute -/
def encF (x : Int × Int) : Array Value := #[.int .i64 x.1, .agg #[.bool (fP x.2), .bool (fN x.2), .int .i64 (fD x.2), .bool (fM x.2)]]
/-- a space of which something holds -/
def FldG (f : Nat → Bool) (p m : Nat) (pre : List (Int × Int)) (x : Int × Int) (W : World) : Prop :=
  pre.map (·.1) ++ [x.1] <+: those f m ∧ ∀ g Y, SAt W p g Y → Y.Ok → Y.L.length = m → (Y.at_ x.1).fa = x.2
theorem SAt.at_eq {w : World} {p g g' : Nat} {X X' : Spc} (h : SAt w p g X) (h' : SAt w p g' X') (ok : X.Ok) (ok' : X'.Ok) (k : Nat) (hk : k < X.L.length) : X.at_ (k : Int) = X'.at_ (k : Int) := by
  obtain ⟨e1, -, e3⟩ := h.cells_eq h'
  have h1 := Spc.at_nat ok hk
  have h2 := Spc.at_nat ok' (show k < X'.L.length by omega)
  rw [e3 k, h2] at h1
  injection h1 with h1
  exact h1.symm
/-- how the inner loop stands -/
structure FtI (J : (Nat → Prop) → List (Int × Int) → World → Prop) (p b1 b2 : Nat) (l : Nat) (N : Nat → Prop) (pre : List Int) (W : World) : Prop where
  j : ∃ ys : List (Int × Int), ys.map (·.1) = pre ∧ J (fun k => N k ∨ k = b1 ∨ k = b2) ys W
  c1 : W.cell? ⟨b1, 0, none⟩ = some (.func (.yield l) #[] #[])
  c2 : W.cell? ⟨b2, 0, none⟩ = some (.pointer (some ⟨p, 0, none⟩))
  n1 : ¬ N b1
  n2 : ¬ N b2
theorem FtI.own {J : (Nat → Prop) → List (Int × Int) → World → Prop} {p b1 b2 l : Nat} (hJ : Own2 J) : Own2 (FtI J p b1 b2 l) := by
  rintro N N' s W W' ⟨⟨ys, hy, h1⟩, h2, h3, h4, h5⟩ hk hn
  have z1 := cell_lt h2
  have z2 := cell_lt h3
  refine ⟨⟨ys, hy, hJ _ _ _ _ _ h1 (hk.mono fun k h => .inl h) ?_⟩, ((hk.at_ b1 z1 h4).1 0).trans h2, ((hk.at_ b2 z2 h5).1 0).trans h3, fun h => ?_, fun h => ?_⟩
  · rintro k (h | h | h)
    · rcases hn k h with h | h
      · exact .inl (.inl h)
      · exact .inr h
    · exact .inl (.inr (.inl h))
    · exact .inl (.inr (.inr h))
  · rcases hn _ h with h | h
    · exact h4 h
    · have : b1 < W.heap.size := z1; omega
  · rcases hn _ h with h | h
    · exact h5 h
    · have : b2 < W.heap.size := z2; omega

set_option maxRecDepth 100000 in
set_option maxHeartbeats 6400000 in
theorem fields_it {p m b : Nat} {f : Nat → Bool} {Q : Spc → Prop} (hQ : ∀ X, Q X → HasAt f m X) : ItN Try.prog 129 #[.pointer (some ⟨b, 0, none⟩)] encF (fun _ => False) (fun _ => True) (SeeS p m b Q) (FldG f p m) (fun xs => xs.map (·.1) = those f m) (fun pre => pre.map (·.1) <+: those f m) := by
  intro k l J Jx N0 W hJ hJx hV hT hNz hV0 hY h0
  refine callsIn_of_wp_marks Try.func129 rfl trivial ?_ rfl
  simp only [Try.ntmps129, List.size_toArray, List.length_cons, List.length_nil, Nat.reduceAdd, Nat.reduceSub, Array.replicate_succ, Array.replicate_zero, List.push_toArray, List.append_toArray, List.nil_append, List.cons_append]
  obtain ⟨g, X, hs, ok, hm, hq, hb⟩ := hV _ _ _ h0
  have zb := cell_lt hb
  have HY := Lib.hid hY
  have HJ := Lib.hid hJ
  have HJx := Lib.hid hJx
  have HVV := Lib.hid hV
  have H0 := Lib.hid h0
  clear hY hJ hJx hV h0 hT hV0 hs ok hm hq
  refine wpIn_wide.2 ?_
  go_wp2_with fail
  refine (attrs_val _ _).mono ?_
  rintro e w3 ⟨b2, rfl, hb2, hb2', hc2, -, hu3⟩
  simp at hb2
  have c1 : w3.cell? ⟨W.heap.size, 0, none⟩ = some (.func (.yield l) #[] #[]) := ((hu3.at_ W.heap.size (by simp)).1 0).trans (by simp [go_sem])
  have hUW := ((Up.refl W).alloc (.cells #[.func (.yield l) #[] #[]] 142)).trans hu3
  have HI0 := Lib.hid (show FtI J p W.heap.size b2 l N0 [] w3 from ⟨⟨[], rfl, HJ.out _ _ _ _ _ H0.out (Keep.of_up hUW) (fun k hk => by rcases hk with h | h | h; exact .inl h; exact .inr (by have := hu3.size; simp at this; omega); exact .inr (by omega))⟩, c1, hc2, fun h => by have := hNz _ h; omega, fun h => by have := hNz _ h; omega⟩)
  clear hu3 hUW c1 hc2
  go_wp2_with fail
  refine wpIn_wide.1 (range_n (n := k) (gf := 157) (lb := #[.pointer (some ⟨b2, 0, none⟩)]) rfl enters_attrs (attrs_it (p := p) (m := m) (b := b2) (Q := Q) hQ) (fun _ => rfl)
    N0 (fun k hk => by have := hNz k hk; omega) (fun k hk => hk.elim) (fun _ _ => trivial)
    (FtI J p W.heap.size b2 l) (fun c N xs W' => match c with | .ret => ∃ ys : List (Int × Int), ys.map (·.1) = xs ∧ Jx N ys W' | _ => False)
    (FtI.own HJ.out) ?ownx ?see HI0.out
    (fun pre x a' N W' => pre ++ [x] <+: those f m ∧ a' = { tmps := #[.func (.yield l) #[] #[], .pointer (some ⟨b, 0, none⟩), .pointer (some ⟨W.heap.size, 0, none⟩), .int .i64 x, .pointer (some ⟨p, 0, none⟩), .func (.func 157) #[] #[.pointer (some ⟨b2, 0, none⟩)], .int .i64 x, undef, undef, undef, undef, undef, undef, undef, undef, undef], defers := [] })
    (fun _ _ _ _ _ _ _ _ h _ _ => h) ?assign ?body ?done ?stop)
  case ownx =>
    intro c N N' xs A A' h hk hn
    cases c
    case ret =>
      obtain ⟨ys, h1, h2⟩ := h
      exact ⟨ys, h1, HJx.out _ _ _ _ _ h2 hk hn⟩
    all_goals exact h.elim
  case see =>
    rintro N pre A ⟨⟨ys, hy, h1⟩, h2, h3, h4, h5⟩
    obtain ⟨g', X', a1, a2, a3, a4, a5⟩ := HVV.out _ _ _ h1
    exact ⟨g', X', a1, a2, a3, a4, h3⟩
  case assign =>
    rintro ll N pre x A K hz hI hG hK
    have HI := Lib.hid hI
    have HG := Lib.hid hG
    clear hI hG
    gi_wp2
    exact hK _ _ (Held.refl _ _) HI.out ⟨HG.out, rfl⟩
  case body =>
    rintro ll N pre x a' A hl hr hz hI ⟨hG, rfl⟩
    obtain ⟨ys, hys, hj⟩ := hI.j
    obtain ⟨g', Y, hs, ok, hm, hq, hbb⟩ := HVV.out _ _ _ hj
    have hmem : x ∈ those f m := hG.subset (by simp)
    obtain ⟨kx, rfl, hkx, -⟩ := mem_those.1 hmem
    obtain ⟨d, hd⟩ : ∃ d, Y.at_ (kx : Int) = d := ⟨_, rfl⟩
    have hfa := Spc.fa_at ok (kx : Int)
    rw [hd] at hfa
    have HAT := Lib.hid (fun W' (hu : Up A W') => sat_op (kx : Int) (hs.up hu) ok hd)
    have HOF := Lib.hid (fun W => of_any d.fa W hfa.1 hfa.2)
    have fC := fldC2
    have k1 := hI.c1
    have z1 := cell_lt k1
    simp only at z1
    have zbb := cell_lt hbb
    have HG2 := Lib.hid (fun W' (hu : Up A W') => show FldG f p m ys ((kx : Int), d.fa) W' from ⟨by rw [hys]; exact hG, fun g2 Y2 h2 ok2 hm2 => by
      have := (hs.up hu).at_eq h2 ok ok2 kx (by omega)
      simp only
      rw [← this, hd]⟩)
    have HJY := Lib.hid (fun W' (hu : Up A W') => HJ.out.up hj hu)
    have HI := Lib.hid hI
    have HYS := Lib.hid hys
    have HZ := Lib.hid hz
    clear hI hz hr hl hj hs ok hm hq hd hfa hmem hG hys
    have k2 := hbb
    simp only at zbb
    gi_wp2
    refine wpIn_region_mixT 7 (NS := []) [] rfl (by kernel_rfl) (by kernel_rfl) (by simp) (by simp) ?_
    simp only [List.take_succ_cons, List.take_zero, List.drop_succ_cons, List.drop_zero]
    repeat (first
      | (refine mix_skip rfl rfl ?_; simp only [Act.put, List.setIfInBounds_toArray, List.set_cons_succ, List.set_cons_zero])
      | (refine mix_q rfl rfl rfl (by kernel_rfl) rfl rfl rfl ?_
         apply Exists.intro
         refine ⟨fun Wm => ?_, ?_⟩
         · simp only [fin]
           skip
           intro K hK
           go_wp2_with ((first | (go_at_call 27; (with_reducible refine (HAT.out _ (up_upOf _ _)).mono ?_); rintro e w' ⟨rfl, hux⟩) | (go_at_call 124; (with_reducible refine (HOF.out _).mono ?_); rintro e w' ⟨rfl, hux⟩)))
           refine hK _ _ ?_ ?_ ?_
           · (repeat (first | with_reducible exact Up.refl _ | with_reducible refine Up.alloc ?_ _ | with_reducible refine Up.drew ?_ | with_reducible refine Up.drewN ?_ _ | with_reducible refine Up.setCell ?_ (by (try simp) <;> omega) _ | with_reducible assumption | with_reducible refine Up.trans ?_ (by assumption)))
           · rfl
           · exact tmps_at rfl
         simp only [Act.put, List.setIfInBounds_toArray, List.set_cons_succ, List.set_cons_zero]))
    refine mix_nil ?_
    intro w9 hb_w9
    simp only [fin]
    obtain ⟨fn, tmps, assign, body, hy, hR⟩ := YieldAt.any (m' := k - 1 - 1 - 1) (HY.out _ ys ((kx : Int), d.fa) w9 (HJY.out _ hb_w9) (HG2.out _ hb_w9))
    have HRR := Lib.hid hR
    have HB9 := Lib.hid hb_w9
    clear hR hb_w9
    simp only [encF] at hy
    gi_wp2
    refine ⟨fun h => by simp [Fence.wide, Fence.inRound] at h, ?_⟩
    refine (RoundIn.inR HRR.out).mono ?_
    rintro e A' (⟨rfl, hJ', hh⟩ | ⟨rfl, hJ', hh⟩)
    · have HJ' := Lib.hid hJ'
      have HH := Lib.hid hh
      clear hJ' hh hy
      gi_wp2
      have h9 : Held N A w9 := Held.of_up HB9.out HZ.out
      refine ⟨h9.trans (HH.out.mono fun k h => .inl h), ?_⟩
      have h := HI.out
      have e1 : A'.heap[W.heap.size]? = w9.heap[W.heap.size]? := HH.out _ (.inr (.inl rfl))
      have e2 : A'.heap[b2]? = w9.heap[b2]? := HH.out _ (.inr (.inr rfl))
      exact ⟨⟨_, by rw [List.map_append, HYS.out]; rfl, HJ'.out⟩, (World.cell?_of_block (a := ⟨W.heap.size, 0, none⟩) e1).trans (((HB9.out.at_ _ (cell_lt h.c1)).1 0).trans h.c1), (World.cell?_of_block (a := ⟨b2, 0, none⟩) e2).trans (((HB9.out.at_ _ (cell_lt h.c2)).1 0).trans h.c2), h.n1, h.n2⟩
    · have HJ' := Lib.hid hJ'
      have HH := Lib.hid hh
      clear hJ' hh hy
      gi_wp2
      have h9 : Held N A w9 := Held.of_up HB9.out HZ.out
      exact ⟨h9.trans (HH.out.mono fun k h => .inl h), _, by rw [List.map_append, HYS.out]; rfl, HJx.out.less HJ'.out fun k h => .inl h⟩
  case done =>
    rintro Dd N xs A hD hND hN0 hS hI hK
    have HI := Lib.hid hI
    have HS := Lib.hid hS
    have HK := Lib.hid hK
    have HN0 := Lib.hid hN0
    have HND := Lib.hid hND
    clear hI hS hK hN0 hND
    go_wp2
    refine ⟨by simp, .inl ⟨_, _, rfl, run_takeDeferred HK.out, ?_⟩⟩
    obtain ⟨ys, hy, h⟩ := HI.out.j
    exact ⟨_, results_none rfl _ _ _, ⟨_, rfl⟩, .inl ⟨ys, hy.trans HS.out, HJ.out.less (HJ.out _ _ _ _ _ h (keep_put _ (.inl HND.out)) (fun k hk => .inl hk)) (fun k hk => .inl (HN0.out k hk))⟩⟩
  case stop =>
    rintro Dd N c pre A hD hND hN0 hSp hIx hK
    cases c
    case ret =>
      refine wpIn_wide.2 ?_
      have HI := Lib.hid hIx
      have HK := Lib.hid hK
      have HN0 := Lib.hid hN0
      have HND := Lib.hid hND
      have HSP := Lib.hid hSp
      clear hIx hK hN0 hND hSp
      go_wp2
      refine ⟨by simp, .inl ⟨_, _, rfl, run_takeDeferred HK.out, ?_⟩⟩
      obtain ⟨ys, hy, h⟩ := HI.out
      exact ⟨_, results_none rfl _ _ _, ⟨_, rfl⟩, .inr ⟨ys, by rw [hy]; exact HSP.out, HJx.out.less (HJx.out _ _ _ _ _ h (keep_put _ HND.out) (fun k hk => .inl hk)) (fun k hk => HN0.out k hk)⟩⟩
    all_goals exact hIx.elim
end Go.Proofs.Ytjokcfenncogkaa
namespace Go.Proofs.Ytjokcfenncogkaa
open Go.RowKit
set_option linter.unusedVariables false
set_option linter.unusedSimpArgs false

theorem range_in {α : Type} {P : Program} {n : Nat} {g : Operand} {ps : Array Tmp} {assign body : Code} {Q : Exit → Act → World → Prop} {a : Act} {w : World}
    {l₀ : Nat} {r₀ : Loop} (hl₀ : w.heap[l₀]? = some (.loop r₀)) {gf : Nat} {lb : Array Value} (hg : a.eval g = .func (.func gf) #[] lb) (eg : ∀ args w, (callFunc gf args).run P w = .ok (.enter gf args) w)
    {encs : α → Array Value} {T : Nat → Prop} {V0 V : World → Prop} {G : List α → α → World → Prop} {S Sp : List α → Prop} (hseq : ItN P gf lb encs T V0 V G S Sp) (hps : ∀ x, (encs x).size = ps.size)
    (N0 : Nat → Prop) (hN0 : ∀ k, N0 k → k < w.heap.size) (hT : ∀ k, T k → N0 k) (hV0 : ∀ W, Up w W → V0 W)
    (I : (Nat → Prop) → List α → World → Prop) (Ix : Code → (Nat → Prop) → List α → World → Prop) (hI : Own2 I) (hIx : ∀ c, Own2 (Ix c)) (hV : ∀ N pre W, I N pre W → V W) (h0 : I N0 [] w)
    (Ax : List α → α → Act → (Nat → Prop) → World → Prop) (hAx : ∀ pre x a', Own2 (fun N (_ : Unit) W => Ax pre x a' N W))
    (hassign : ∀ (l : Nat) (N : Nat → Prop) (pre : List α) (x : α) (W : World) (K : Act → World → Prop), (∀ k, N k → k < W.heap.size) → I N pre W → G pre x W → (∀ a' W', Held N W W' → I N pre W' → Ax pre x a' N W' → K a' W') →
      assign.wpIn (Fence.wide.inRound l) (n - 1 - 1) P (Exit.then K (fun _ _ _ => False)) { tmps := (ps.zip (encs x)).foldl (fun t (p, v) => t.setIfInBounds p v) a.tmps, defers := [] } W)
    (hbody : ∀ (l : Nat) (N : Nat → Prop) (pre : List α) (x : α) (a' : Act) (W : World), N l → (∃ r, W.heap[l]? = some (.loop r)) → (∀ k, N k → k < W.heap.size) → I N pre W → Ax pre x a' N W →
      body.wpIn (Fence.wide.inRound l) (n - 1 - 1) P (itPostN N I Ix (pre ++ [x]) W) a' W)
    (hdone : ∀ (N : Nat → Prop) (xs : List α) (W : World), (∀ k, N0 k → N k) → S xs → I N xs W → Q .normal a W)
    (hstop : ∀ (N : Nat → Prop) (c : Code) (pre : List α) (W : World), (∀ k, N0 k → N k) → Sp pre → Ix c N pre W → c.wpIn (Fence.wide.inRound l₀) n P Q a W) :
    (Code.rangeFunc g ps assign body).wpIn (Fence.wide.inRound l₀) n P Q a w := by
  refine wpIn_rangeFunc ?_
  intro fn hfn
  rw [Fence.inRound_round]
  obtain ⟨rec, hrec⟩ : ∃ rec : LoopState → Option Code → Loop, rec = fun st pe => { state := st, pending := pe, fn, tmps := a.tmps, params := ps, assign, body, defers := r₀.defers } := ⟨_, rfl⟩
  obtain ⟨W1, hW1⟩ : ∃ W1, w.alloc (.loop (rec .ready none)) = W1 := ⟨_, rfl⟩
  have hz1 : W1.heap.size = w.heap.size + 1 := by rw [← hW1]; simp
  have hL1 : W1.heap[w.heap.size]? = some (.loop (rec .ready none)) := by
    rw [← hW1]; exact World.alloc_heap_new w _
  have hb1 : Up w W1 := by
    rw [← hW1]; exact (Up.refl w).alloc _
  obtain ⟨pl, hpl⟩ : ∃ pl : (Nat → Prop) → Nat → Prop, pl = fun N k => N k ∨ k = w.heap.size := ⟨_, rfl⟩
  have plN : ∀ {N : Nat → Prop} {k}, N k → pl N k := fun h => by rw [hpl]; exact .inl h
  have plL : ∀ {N : Nat → Prop}, pl N w.heap.size := by rw [hpl]; exact .inr rfl
  have hI1 : I (pl N0) [] W1 := hI _ _ _ _ _ h0 (Keep.of_up hb1) (fun k hk => by rw [hpl] at hk; rcases hk with h | h; exact .inl h; exact .inr (by omega))
  refine ⟨w.heap.size, [], W1, { target := .fn (.func gf) lb, args := #[.func (.yield w.heap.size) #[] #[]] }, W1, gf,
    #[.func (.yield w.heap.size) #[] #[]] ++ lb, W1, ?_, ?_, ?_, ?_, fun h => by simp [Fence.wide] at h, ?_⟩
  · rw [← hW1, hrec]; exact run_enterLoop_inner hl₀ _ _ _ _ _
  · simp only [resolve, hg]
    simp [go_sem]
  · intro f' hf'; trivial
  · simp [invoke, go_sem, eg]
  · have step : ∀ {N N' : Nat → Prop} {A A' : World} {o : Obj}, Keep N A A' → (∀ k, N' k → N k ∨ (A.heap.size ≤ k ∧ k < A'.heap.size)) → ¬ N w.heap.size → A.heap[w.heap.size]? = some o →
        ¬ N' w.heap.size ∧ A'.heap[w.heap.size]? = some o ∧ (∀ k, pl N' k → pl N k ∨ (A.heap.size ≤ k ∧ k < A'.heap.size)) ∧ Keep (pl N) A A' := fun hk hn h1 hl => by
      have l1 := (Array.getElem?_eq_some_iff.1 hl).1
      refine ⟨fun h => ?_, (hk.block _ l1 h1).trans hl, fun k h => ?_, hk.mono fun k h => plN h⟩
      · rcases hn _ h with h | h
        · exact h1 h
        · omega
      · rw [hpl] at h
        rcases h with h | rfl
        · rcases hn _ h with h | h
          · exact .inl (plN h)
          · exact .inr h
        · exact .inl plL
    refine (CallsIn.inRound l₀ (hseq (n - 1) w.heap.size
      (fun N pre W => ¬ N w.heap.size ∧ (∀ k, N k → k < W.heap.size) ∧ I (pl N) pre W ∧ W.heap[w.heap.size]? = some (.loop (rec .ready none)))
      (fun N pre W => ∃ c, ¬ N w.heap.size ∧ Ix c (pl N) pre W ∧ W.heap[w.heap.size]? = some (.loop (rec .done (some c))))
      N0 W1
      ?own ?ownx
      (fun N pre W h => hV _ _ _ h.2.2.1) hT (fun k hk => by have := hN0 k hk; omega) (hV0 _ hb1)
      ?_ ⟨fun h => by have := hN0 _ h; omega, fun k hk => by have := hN0 k hk; omega, hI1, hL1⟩)).mono ?_
    case own =>
      rintro N N' s A A' ⟨h1, hz, hi, hl⟩ hk hn
      obtain ⟨g1, g3, g5, g6⟩ := step hk hn h1 hl
      exact ⟨g1, fun k h => by
        rcases hn k h with h | h
        · have := hz k h; have := hk.size; omega
        · exact h.2, hI _ _ _ _ _ hi g6 g5, g3⟩
    case ownx =>
      rintro N N' s A A' ⟨c, h1, hi, hl⟩ hk hn
      obtain ⟨g1, g3, g5, g6⟩ := step hk hn h1 hl
      exact ⟨c, g1, hIx c _ _ _ _ _ hi g6 g5, g3⟩
    · rintro N pre x W ⟨h1, hzN, hi, hl⟩ hGx
      have hplz : ∀ k, pl N k → k < W.heap.size := fun k h => by
        rw [hpl] at h
        rcases h with h | rfl
        · exact hzN k h
        · exact (Array.getElem?_eq_some_iff.1 hl).1
      have hlt : w.heap.size < W.heap.size := (Array.getElem?_eq_some_iff.1 hl).1
      have hy := run_yield (P := P) (args := encs x) hl (by rw [hrec]; exact hps x)
      rw [hrec] at hy
      refine ⟨fn, _, assign, body, hy, roundIn_of_wpIn hfn (hassign _ (pl N) pre x W _ hplz hi hGx ?_)⟩
      clear hy
      intro a' Wa hkfa hia hax
      replace hl := (hkfa _ plL).trans hl
      replace hlt : w.heap.size < Wa.heap.size := (Array.getElem?_eq_some_iff.1 hl).1
      replace hi := hia
      clear hia
      revert hkfa
      revert hplz
      revert hzN
      generalize W = Wb
      intro hzN hplz hkfa
      obtain ⟨W, rfl⟩ : ∃ W, W = Wa := ⟨_, rfl⟩
      have hplW : ∀ k, pl N k → k < W.heap.size := fun k h => by
        have h1 := hkfa k h
        have h2 := hplz k h
        rw [Array.getElem?_eq_getElem h2] at h1
        exact (Array.getElem?_eq_some_iff.1 h1).1
      refine ⟨_, run_beginRound hl (by rw [hrec]), ?_⟩
      have hl2 : (W.putObj w.heap.size (.loop { rec .ready none with state := .busy })).heap[w.heap.size]? = some (.loop { rec .ready none with state := .busy }) := World.putObj_heap_same hlt
      have hp2 : ∀ o', Held N W (W.putObj w.heap.size o') := fun o' k hk => World.putObj_heap_other (fun e => by subst e; exact h1 hk)
      refine wpIn_mono (hbody _ (pl N) pre x a' _ plL ⟨_, hl2⟩ (fun k h => by simpa using hplW k h) (hI _ _ _ _ _ hi (keep_put _ plL) (fun _ h => .inl h)) (hAx pre x a' _ _ () _ _ hax (keep_put _ plL) (fun _ h => .inl h))) ?_
      have fin : ∀ (jump : Option Code) (W3 : World), Held (pl N) (W.putObj w.heap.size (.loop { rec .ready none with state := .busy })) W3 →
          (Instr.endRound w.heap.size jump).run P W3 = .ok (.bool jump.isNone) (W3.putObj w.heap.size (.loop (rec (if jump.isNone then .ready else .done) jump))) ∧
          (W3.putObj w.heap.size (.loop (rec (if jump.isNone then .ready else .done) jump))).heap[w.heap.size]? = some (.loop (rec (if jump.isNone then .ready else .done) jump)) ∧
          Held N Wb (W3.putObj w.heap.size (.loop (rec (if jump.isNone then .ready else .done) jump))) := fun jump W3 hk3 => by
        have hl3 := (hk3 _ plL).trans hl2
        have := run_endRound (P := P) jump hl3
        rw [hrec] at this ⊢
        refine ⟨this, World.putObj_heap_same (Array.getElem?_eq_some_iff.1 hl3).1, ?_⟩
        refine (hkfa.mono (fun k h => plN h)).trans (((hp2 _).trans (hk3.mono (fun k h => plN h))).trans fun k hk => World.putObj_heap_other (fun e => by subst e; exact h1 hk))
      rintro e a3 W3 hp
      cases e with
      | normal =>
        obtain ⟨hk3, hi3⟩ := hp
        obtain ⟨hr, hl4, hh⟩ := fin none W3 hk3
        exact ⟨_, _, hr, .inl ⟨rfl, ⟨h1, fun k h => by
          have h4 := hh k h
          rw [Array.getElem?_eq_getElem (hzN k h)] at h4
          exact (Array.getElem?_eq_some_iff.1 h4).1, hI _ _ _ _ _ hi3 (keep_put _ plL) (fun _ h => .inl h), hl4⟩, hh⟩⟩
      | ret =>
        obtain ⟨hk3, hi3⟩ := hp
        obtain ⟨hr, hl4, hh⟩ := fin (some .ret) W3 hk3
        exact ⟨_, _, hr, .inr ⟨rfl, ⟨.ret, h1, hIx _ _ _ _ _ _ hi3 (keep_put _ plL) (fun _ h => .inl h), hl4⟩, hh⟩⟩
      | exit id =>
        obtain ⟨hk3, hi3⟩ := hp
        obtain ⟨hr, hl4, hh⟩ := fin (some (.exit id)) W3 hk3
        exact ⟨_, _, hr, .inr ⟨rfl, ⟨.exit id, h1, hIx _ _ _ _ _ _ hi3 (keep_put _ plL) (fun _ h => .inl h), hl4⟩, hh⟩⟩
      | goto t =>
        obtain ⟨hk3, hi3⟩ := hp
        obtain ⟨hr, hl4, hh⟩ := fin (some (.goto t)) W3 hk3
        exact ⟨_, _, hr, .inr ⟨rfl, ⟨.goto t, h1, hIx _ _ _ _ _ _ hi3 (keep_put _ plL) (fun _ h => .inl h), hl4⟩, hh⟩⟩
      | panic ch => exact hp.elim
      | outgrown => exact hp.elim
    · rintro e W2 ⟨⟨v, rfl⟩, (⟨xs, hS, h1, -, hi, hl⟩ | ⟨pre, hSp, c, h1, hi, hl⟩)⟩
      · exact ⟨none, _, by have := run_endLoop (P := P) hl (by rw [hrec]; simp); rw [hrec] at this; exact this, hdone (pl N0) xs _ (fun k h => plN h) hS (hI _ _ _ _ _ hi (keep_put _ plL) (fun _ h => .inl h))⟩
      · exact ⟨some c, _, by have := run_endLoop (P := P) hl (by rw [hrec]; simp); rw [hrec] at this; exact this, hstop (pl N0) c pre _ (fun k h => plN h) hSp (hIx c _ _ _ _ _ hi (keep_put _ plL) (fun _ h => .inl h))⟩
end Go.Proofs.Ytjokcfenncogkaa
namespace Go.Proofs.Ytjokcfenncogkaa
open Go.RowKit Go.Shelf
set_option linter.unusedVariables false
set_option linter.unusedSimpArgs false
attribute [local go_sem] Oper.semAt_some

structure ScI (w : World) (Z : Spc) (p g : Nat) (N : Nat → Prop) (W : World) : Prop where
  s : SAt W p g Z
  k : Keep (two p g) w W
  np : ¬ N p
  ng : ¬ N g
  nw : ∀ k, N k → w.heap.size ≤ k
theorem ScI.keep {w : World} {Z : Spc} {p g : Nat} {N N' : Nat → Prop} {W W' : World} (h : ScI w Z p g N W) (hk : Keep N W W') (hn : ∀ k, N' k → N k ∨ (W.heap.size ≤ k ∧ k < W'.heap.size)) : ScI w Z p g N' W' := by
  obtain ⟨h1, h2, h5, h6, h11⟩ := h
  have zp := h1.lt
  have zg := h1.cells.2.1
  have no : ∀ k, k < W.heap.size → ¬ N k → ¬ N' k := fun k hk hN h => by
    rcases hn _ h with h | h
    · exact hN h
    · omega
  exact ⟨h1.held hk h5 h6, h2.past2 hk (fun k h => .inl (h11 k h)), no _ zp h5, no _ zg h6, fun k h => by
    rcases hn _ h with h | h
    · exact h11 k h
    · have := h2.size; omega⟩
theorem BoxAt.past {N : Nat → Prop} {W W' : World} {b : Nat} {v : Value} {E : Nat → Prop} (h : BoxAt N W b v) (hk : Keep E W W') (he : ¬ E b) : BoxAt N W' b v :=
  ⟨((hk.at_ b h.lt he).1 0).trans h.c, ((hk.at_ b h.lt he).2 0).trans h.f, h.n⟩
theorem places_val14 (v : Option Addr) (n : Int) (w : World) :
    Calls Try.prog 74 #[.pointer v, .int .i64 n] w fun e w' => e = .returned (.func (.func 130) #[] #[.pointer (some ⟨w.heap.size, 0, none⟩), .pointer (some ⟨w.heap.size + 1, 0, none⟩)]) ∧ w'.cell? ⟨w.heap.size, 0, none⟩ = some (.pointer v) ∧ w'.cell? ⟨w.heap.size + 1, 0, none⟩ = some (.int .i64 n) ∧ w'.frozen? ⟨w.heap.size, 0, none⟩ = false ∧ w'.frozen? ⟨w.heap.size + 1, 0, none⟩ = false ∧ Up w w' := by
  go_enter Try.func74, Try.ntmps74
  go_wp2
  go_ret
  exact ⟨by simp, by simp [go_sem], by simp [go_sem], by simp [go_sem], by simp [go_sem], by (repeat (first | with_reducible exact Up.refl _ | with_reducible refine Up.alloc ?_ _ | with_reducible refine Up.drew ?_ | with_reducible refine Up.drewN ?_ _ | with_reducible refine Up.setCell ?_ (by (try simp) <;> omega) _ | with_reducible assumption | with_reducible refine Up.trans ?_ (by assumption)))⟩
theorem nulF_alike (Y : Spc) (l : List Int) : Alike Y (Y.nulF l) := ⟨rfl, rfl, chs_isA Y _⟩
set_option maxRecDepth 100000 in
set_option maxHeartbeats 12800000 in
theorem cunp_is {p g : Nat} {X : Spc} {w : World} (hs : SAt w p g X) (ok : X.Ok) :
    Calls Try.prog 106 #[.pointer (some ⟨p, 0, none⟩)] w fun e w' => e = .returned (.tuple #[]) ∧ SAt w' p g (if 0 < attrsN X.L then (unpL X X.attrs).place (max ((unpL X X.attrs).find (-1) 1) 0) else X.allA.place 0) ∧ Keep (two p g) w w' := by
  have HS := Lib.hid hs
  have HO := Lib.hid ok
  have zp := hs.lt
  have zg := hs.cells.2.1
  have hsm := ok.small
  have HUL := Lib.hid (fun l => unpL_ok ok l)
  have HAE := Lib.hid (show X.attrs = those (isAt X.L) X.L.length from rfl)
  have HF := Lib.hid (fun W (h' : SAt W p g X) => sform_is h')
  obtain ⟨fm, hfm⟩ : ∃ fm, decide (0 < attrsN X.L) = fm := ⟨_, rfl⟩
  rw [hfm] at HF
  have HFM := Lib.hid hfm
  clear hs ok hfm
  refine (callsIn_wide (n := 9)).1 ?_
  refine callsIn_of_wp_marks Try.func106 rfl trivial ?_ rfl
  simp only [Try.ntmps106, List.size_toArray, List.length_cons, List.length_nil, Nat.reduceAdd, Nat.reduceSub, Array.replicate_succ, Array.replicate_zero, List.push_toArray, List.append_toArray, List.nil_append, List.cons_append]
  refine wpIn_wide.2 ?_
  cases fm
  · have hno : ¬ 0 < attrsN X.L := by have := HFM.out; simpa using this
    rw [if_neg hno]
    have HAL := Lib.hid (fun W (h' : SAt W p g X) => call_is h' HO.out)
    have HPL := Lib.hid (fun W (h' : SAt W p g X.allA) => splace_is 0 h' (allA_ok HO.out))
    go_wp2_with fail
    refine (HF.out _ (HS.out.up ((Up.refl w).alloc _))).mono ?_
    rintro e w2 ⟨rfl, rfl⟩
    go_wp2_with fail
    refine (HAL.out _ (HS.out.up ((Up.refl w).alloc _))).mono ?_
    rintro e w3 ⟨rfl, hs3, hk3⟩
    have c3 : w3.cell? ⟨w.heap.size, 0, none⟩ = some (.pointer (some ⟨p, 0, none⟩)) := ((hk3.at_ w.heap.size (by simp) (fun e => by rcases e with e | e <;> omega)).1 0).trans (by simp [go_sem])
    have z3 := cell_lt c3
    simp only at z3
    have HS3 := Lib.hid hs3
    have HK3 := Lib.hid ((Keep.of_up ((Up.refl w).alloc _)).trans hk3)
    clear hs3 hk3
    go_wp2_with fail
    refine (HPL.out _ HS3.out).mono ?_
    rintro e w4 ⟨rfl, hs4, hk4⟩
    have HR := Lib.hid (show SAt w4 p g (X.allA.place 0) ∧ Keep (two p g) w w4 from ⟨hs4, HK3.out.trans hk4⟩)
    clear hs4 hk4
    go_wp2_with fail
    exact ⟨_, results_none rfl _ _ _, rfl, HR.out⟩
  · have hyes : 0 < attrsN X.L := by have := HFM.out; simpa using this
    rw [if_pos hyes]
    go_wp2_with fail
    refine (HF.out _ (HS.out.up ((Up.refl w).alloc _))).mono ?_
    rintro e w2 ⟨rfl, rfl⟩
    go_wp2_with fail
    refine (fields_val13 _ _).mono ?_
    rintro e w3 ⟨b, rfl, hb, hz, hcb, hfb, hu3⟩
    simp at hb hz
    have B0 : BoxAt (fun _ => False) w3 w.heap.size (.pointer (some ⟨p, 0, none⟩)) := ⟨((hu3.at_ _ (by simp)).1 0).trans (by simp [go_sem]), ((hu3.at_ _ (by simp)).2 0).trans (by simp [go_sem]), fun h => h⟩
    have B2 : BoxAt (fun _ => False) w3 b (.pointer (some ⟨p, 0, none⟩)) := ⟨hcb, hfb, fun h => h⟩
    have uw := ((Up.refl w).alloc (.cells #[.pointer (some ⟨p, 0, none⟩)] 27)).trans hu3
    have HI0 := Lib.hid (show ScI w (unpL X []) p g (fun _ => False) w3 from ⟨HS.out.up uw, Keep.of_up uw, fun h => h, fun h => h, fun k h => h.elim⟩)
    have HBB := Lib.hid (show _ ∧ _ from ⟨B0, B2⟩)
    clear hu3 hz hcb hfb B0 B2 uw
    go_wp2_with fail
    refine wpIn_wide.1 (range_n (n := 9) (gf := 129) (lb := #[.pointer (some ⟨b, 0, none⟩)]) rfl enters_fields13 (fields_it (p := p) (m := X.L.length) (b := b) (f := isAt X.L) (Q := fun Y => HasAt (isAt X.L) X.L.length Y) (fun _ h => h)) (fun _ => rfl)
      (fun _ => False) (fun k hk => hk.elim) (fun k hk => hk.elim) (fun _ _ => trivial)
      (fun N pre W => ScI w (unpL X (pre.map (fun y : Int × Int => y.1))) p g N W ∧ BoxAt N W w.heap.size (.pointer (some ⟨p, 0, none⟩)) ∧ BoxAt N W b (.pointer (some ⟨p, 0, none⟩)))
      (fun _ _ _ _ => False)
      (fun N N' s A A' h hk hn => ⟨h.1.keep hk hn, h.2.1.keep hk hn, h.2.2.keep hk hn⟩) (fun _ _ _ _ _ _ h _ _ => h)
      ?see ⟨HI0.out, HBB.out.1, HBB.out.2⟩
      (fun pre x a' N W' => pre.map (fun y : Int × Int => y.1) ++ [x.1] <+: those (isAt X.L) X.L.length ∧ x.2 = ((unpL X (pre.map (fun y : Int × Int => y.1))).at_ x.1).fa ∧ ∃ bx, a' = { tmps := #[.pointer (some ⟨p, 0, none⟩), .pointer (some ⟨w.heap.size, 0, none⟩), .int .i64 x.1, .pointer (some ⟨bx, 0, none⟩), undef, undef, .pointer (some ⟨p, 0, none⟩), .bool true, .bool false, undef, undef, undef, undef, .pointer (some ⟨p, 0, none⟩), .func (.func 129) #[] #[.pointer (some ⟨b, 0, none⟩)], .int .i64 x.1, .agg #[.bool (fP x.2), .bool (fN x.2), .int .i64 (fD x.2), .bool (fM x.2)], undef, undef, undef, undef, undef, undef, undef, undef, undef, undef, undef, undef, undef, undef, undef, undef, undef, undef, undef, undef, undef, undef, undef, undef, undef], defers := [] } ∧
        W'.cell? ⟨bx, 0, none⟩ = some (.bool (fP x.2)) ∧ ¬ N bx)
      ?ownax ?assign ?body ?done (fun _ _ _ _ _ _ _ _ _ h _ => h.elim))
    case see =>
      rintro N pre W ⟨h1, h2, h3⟩
      obtain ⟨u1, u2⟩ := HUL.out (pre.map (fun y : Int × Int => y.1))
      exact ⟨g, _, h1.s, u1, u2.len, fun k hk => by rw [← Spc.isA_nat u1 (by rw [u2.len]; exact hk), u2.at_, Spc.isA_nat HO.out hk], h3.c⟩
    case ownax =>
      rintro pre x a' N N' _ A A' ⟨h1, h2, bx, h4, h5, h6⟩ hk hn
      have zx := cell_lt h5
      exact ⟨h1, h2, bx, h4, ((hk.at_ bx zx h6).1 0).trans h5, fun h => by
        rcases hn _ h with h | h
        · exact h6 h
        · have : bx < A.heap.size := zx; omega⟩
    case assign =>
      rintro ll N pre ⟨x, fa⟩ A K hz hI hG hK
      obtain ⟨u1, u2⟩ := HUL.out (pre.map (fun y : Int × Int => y.1))
      have hfa := hG.2 g _ hI.1.s u1 u2.len
      have HI := Lib.hid hI
      have HN := Lib.hid hz
      have HG := Lib.hid hG.1
      have HFA := Lib.hid hfa.symm
      clear hI hz hG hfa u1 u2
      simp only [encF]
      gi_wp2
      have hu : Up A (A.alloc (.cells #[.bool (fP fa), .bool (fN fa), .int .i64 (fD fa), .bool (fM fa)] 66)) := (Up.refl A).alloc _
      refine hK _ _ (Held.of_up (show Up A _ by (repeat (first | with_reducible exact Up.refl _ | with_reducible refine Up.alloc ?_ _ | with_reducible refine Up.drew ?_ | with_reducible refine Up.drewN ?_ _ | with_reducible refine Up.setCell ?_ (by (try simp) <;> omega) _ | with_reducible assumption | with_reducible refine Up.trans ?_ (by assumption)))) HN.out) ⟨HI.out.1.keep (Keep.of_up (show Up A _ by (repeat (first | with_reducible exact Up.refl _ | with_reducible refine Up.alloc ?_ _ | with_reducible refine Up.drew ?_ | with_reducible refine Up.drewN ?_ _ | with_reducible refine Up.setCell ?_ (by (try simp) <;> omega) _ | with_reducible assumption | with_reducible refine Up.trans ?_ (by assumption))))) (fun _ h => .inl h), HI.out.2.1.up (by (repeat (first | with_reducible exact Up.refl _ | with_reducible refine Up.alloc ?_ _ | with_reducible refine Up.drew ?_ | with_reducible refine Up.drewN ?_ _ | with_reducible refine Up.setCell ?_ (by (try simp) <;> omega) _ | with_reducible assumption | with_reducible refine Up.trans ?_ (by assumption)))), HI.out.2.2.up (by (repeat (first | with_reducible exact Up.refl _ | with_reducible refine Up.alloc ?_ _ | with_reducible refine Up.drew ?_ | with_reducible refine Up.drewN ?_ _ | with_reducible refine Up.setCell ?_ (by (try simp) <;> omega) _ | with_reducible assumption | with_reducible refine Up.trans ?_ (by assumption))))⟩ ⟨HG.out, HFA.out, A.heap.size, rfl, by simp [go_sem], fun h => by have := HN.out _ h; omega⟩
    case body =>
      rintro ll N pre ⟨x, fa⟩ a' A hl hr hz hI ⟨hG, hfa, bx, rfl, hbx, hbn⟩
      simp only at hG hfa hbx
      have HI := Lib.hid hI
      have HZ := Lib.hid hz
      have HST := Lib.hid (unpL_snoc X (pre.map (fun y : Int × Int => y.1)) x)
      obtain ⟨u1, u2⟩ := HUL.out (pre.map (fun y : Int × Int => y.1))
      have hmem : x ∈ those (isAt X.L) X.L.length := hG.subset (by simp)
      obtain ⟨kx, rfl, hkx, -⟩ := mem_those.1 hmem
      have zx := cell_lt hbx
      simp only at zx
      have c0 := hI.2.1.c
      have z0 := hI.2.1.lt
      obtain ⟨Y, hY⟩ : ∃ Y, unpL X (pre.map (fun y : Int × Int => y.1)) = Y := ⟨_, rfl⟩
      have HYE := Lib.hid hY
      rw [hY] at HST u1 u2 hfa
      have HOY := Lib.hid u1
      have HAK := Lib.hid u2
      have HFA := Lib.hid hfa
      have HUS := Lib.hid (show unpS Y (kx : Int) = if fP (Y.at_ (kx : Int)).fa then Y else (Y.nulF (Y.places (kx : Int))).set (kx : Int) ((Y.nulF (Y.places (kx : Int))).at_ (kx : Int)).clean from rfl)
      rw [← hfa] at HUS
      obtain ⟨r, hr1, hr2, hr3⟩ := hr
      have HRR := Lib.hid hr1
      clear hI hz hG hfa u1 u2 hmem hr1 hr2 hr3
      obtain ⟨b0, hb0⟩ : ∃ b0, fP fa = b0 := ⟨_, rfl⟩
      have HB0 := Lib.hid hb0
      rw [hb0] at hbx HUS
      clear hY
      cases b0
      · gi_wp2_with (refine ⟨trivial, ?_⟩; gi_at_call 74; (with_reducible refine (CallsIn.inRound _ (callsIn_wide.2 (places_val14 _ _ _))).mono ?_); rintro e w9 ⟨rfl, hcp, hcp2, hfp, hfp2, hu9⟩; have HU9 := Lib.hid hu9; clear hu9)
        obtain ⟨h1, h2, h3⟩ := HI.out
        rw [HYE.out] at h1
        have hu9 := HU9.out
        have hl9 : w9.heap[ll]? = some (.loop r) := (hu9.block ll (HZ.out _ hl)).trans HRR.out
        have hII : ScI w (Y.nulF []) p g (fun k => k = (A.heap.size + 1)) w9 ∧ BoxAt (fun k => k = (A.heap.size + 1)) w9 w.heap.size (.pointer (some ⟨p, 0, none⟩)) ∧ BoxAt (fun k => k = (A.heap.size + 1)) w9 b (.pointer (some ⟨p, 0, none⟩)) ∧ BoxAt (fun k => k = (A.heap.size + 1)) w9 A.heap.size (.pointer (some ⟨p, 0, none⟩)) ∧ Held N A w9 ∧ ∀ k, N k → ¬ k = (A.heap.size + 1) ∧ k < w9.heap.size := by
          have zp' := h1.s.lt
          have zg' := h1.s.cells.2.1
          have zb' := h3.lt
          have zw' := h1.k.size
          have h2' := h2.up hu9
          have h3' := h3.up hu9
          refine ⟨⟨by rw [nulF_nil HOY.out]; exact h1.s.up hu9, h1.k.trans (Keep.of_up hu9), by show ¬ _ = _; omega, by show ¬ _ = _; omega, fun k hk => by have hk' : k = A.heap.size + 1 := hk; omega⟩, ⟨h2'.c, h2'.f, by show ¬ _ = _; omega⟩, ⟨h3'.c, h3'.f, by show ¬ _ = _; omega⟩, ⟨hcp, hfp, by show ¬ _ = _; omega⟩, Held.of_up hu9 HZ.out, fun k hk => by have := HZ.out k hk; have := hu9.size; exact ⟨by omega, by omega⟩⟩
        have HII := Lib.hid hII
        have HC2 := Lib.hid (⟨hcp2, hfp2⟩ : _ ∧ _)
        clear hu9 h1 h2 h3 hII hcp hcp2 hfp2
        have HGP := Lib.hid (good_places HOY.out (kx : Int))
        have zq2 := cell_lt HC2.out.1
        simp only at zq2
        refine range_in (l₀ := ll) (r₀ := r) hl9 (gf := 130) (lb := #[.pointer (some ⟨A.heap.size, 0, none⟩), .pointer (some ⟨(A.heap.size + 1), 0, none⟩)]) rfl enters_places (places_it HOY.out (p := p) (b := A.heap.size) (b2 := (A.heap.size + 1)) (a := (kx : Int))) (fun _ => rfl)
          (fun k => k = (A.heap.size + 1)) (fun k hk => by rw [hk]; exact zq2) (fun k hk => hk) (fun W hu => ⟨((hu.at_ (A.heap.size + 1) zq2).1 0).trans HC2.out.1, ((hu.at_ (A.heap.size + 1) zq2).2 0).trans HC2.out.2⟩)
          (fun N' pre' W' => ScI w (Y.nulF pre') p g N' W' ∧ BoxAt N' W' w.heap.size (.pointer (some ⟨p, 0, none⟩)) ∧ BoxAt N' W' b (.pointer (some ⟨p, 0, none⟩)) ∧ BoxAt N' W' A.heap.size (.pointer (some ⟨p, 0, none⟩)) ∧ Held N A W' ∧ ∀ k, N k → ¬ N' k ∧ k < W'.heap.size)
          (fun _ _ _ _ => False)
          (fun N1 N2 s A1 A2 h hk hn => ⟨h.1.keep hk hn, h.2.1.keep hk hn, h.2.2.1.keep hk hn, h.2.2.2.1.keep hk hn, fun k hN => (hk.block k (h.2.2.2.2.2 k hN).2 (h.2.2.2.2.2 k hN).1).trans (h.2.2.2.2.1 k hN), fun k hN => ⟨fun h2 => by
            rcases hn _ h2 with h3 | h3
            · exact (h.2.2.2.2.2 k hN).1 h3
            · have := (h.2.2.2.2.2 k hN).2; omega, by have := (h.2.2.2.2.2 k hN).2; have := hk.size; omega⟩⟩)
          (fun _ _ _ _ _ _ h _ _ => h)
          (fun N' pre' W' h => ⟨g, _, h.1.s, nulF_ok HOY.out pre', nulF_alike Y pre', h.2.2.2.1.c⟩) HII.out
          (fun pre' x' a' N' W' => pre' ++ [x'] <+: Y.places (kx : Int) ∧ a' = { tmps := #[.pointer (some ⟨p, 0, none⟩), .pointer (some ⟨w.heap.size, 0, none⟩), .int .i64 (kx : Int), .pointer (some ⟨bx, 0, none⟩), .int .i64 x', undef, .pointer (some ⟨p, 0, none⟩), .bool true, .bool false, undef, undef, undef, undef, .pointer (some ⟨p, 0, none⟩), .func (.func 129) #[] #[.pointer (some ⟨b, 0, none⟩)], .int .i64 (kx : Int), .agg #[.bool false, .bool (fN fa), .int .i64 (fD fa), .bool (fM fa)], .pointer (some ⟨bx, 0, none⟩), .bool false, .pointer (some ⟨p, 0, none⟩), .int .i64 (kx : Int), .func (.func 130) #[] #[.pointer (some ⟨A.heap.size, 0, none⟩), .pointer (some ⟨(A.heap.size + 1), 0, none⟩)], .int .i64 x', undef, undef, undef, undef, undef, undef, undef, undef, undef, undef, undef, undef, undef, undef, undef, undef, undef, undef, undef], defers := [] })
          (fun _ _ _ _ _ _ _ _ h _ _ => h) ?assign2 ?body2 ?done2 (fun _ _ _ _ _ _ h => h.elim)
        case assign2 =>
          rintro l2 N2 pre2 x2 W2 K hz2 hI2 hG2 hK2
          have HI2 := Lib.hid hI2
          have HG2 := Lib.hid hG2
          clear hI2 hG2
          gi_wp2
          exact hK2 _ _ (Held.refl _ _) HI2.out ⟨HG2.out, by simp⟩
        case body2 =>
          rintro l2 N2 pre2 x2 a2 A2 hl2 hr2 hz2 hI2 ⟨hG2, rfl⟩
          have HI2 := Lib.hid hI2
          have HZ2 := Lib.hid hz2
          have hbx2 := HGP.out.bd x2 (hG2.subset (by simp))
          have HSN := Lib.hid (nulF_snoc HOY.out (l := pre2) hbx2.1 hbx2.2)
          have HPU := Lib.hid (sput_is x2 0 hI2.1.s (nulF_ok HOY.out pre2))
          have c2 := hI2.2.1.c
          have z2 := hI2.2.1.lt
          clear hI2 hz2 hG2 hr2 hl2 hbx2
          gi_wp2_with (refine ⟨trivial, ?_⟩; gi_at_call 31; (with_reducible refine (CallsIn.inRound _ (callsIn_wide.2 HPU.out)).mono ?_); rintro e w10 ⟨rfl, hs10, hk10⟩; have HS10 := Lib.hid hs10; have HK10 := Lib.hid hk10; clear hs10 hk10)
          obtain ⟨i1, i2, i3, i4, i5, i6⟩ := HI2.out
          have hk := HK10.out
          have zpA := i1.s.lt
          have nt : ∀ k, w.heap.size ≤ k → ¬ two p g k := fun k hk e => by rcases e with e | e <;> omega
          have zbb : w.heap.size ≤ b := by omega
          have zpb : w.heap.size ≤ A.heap.size := HI.out.1.k.size
          refine ⟨Held.of_keep hk (fun k h => ⟨HZ2.out k h, fun e => by rcases e with rfl | rfl; exact i1.np h; exact i1.ng h⟩), ⟨by rw [HSN.out]; exact HS10.out, i1.k.trans hk, i1.np, i1.ng, i1.nw⟩, i2.past hk (nt _ (Nat.le_refl _)), i3.past hk (nt _ zbb), i4.past hk (nt _ zpb), i5.trans (Held.of_keep hk (fun k h => ⟨(i6 k h).2, fun e => by rcases e with rfl | rfl; exact HI.out.1.np h; exact HI.out.1.ng h⟩)), fun k h => ⟨(i6 k h).1, by have := hk.size; have := (i6 k h).2; omega⟩⟩
        case done2 =>
          rintro N3 xs W3 hN3 hS3 hI3
          rw [hS3] at hI3
          have HI3 := Lib.hid hI3
          obtain ⟨d, hd⟩ : ∃ d, (Y.nulF (Y.places (kx : Int))).at_ (kx : Int) = d := ⟨_, rfl⟩
          have okF := nulF_ok HOY.out (Y.places (kx : Int))
          have hwf := okF.at_wf (kx : Int)
          rw [hd] at hwf HUS
          have hcw := Cl.clean_wf hwf
          have HAT := Lib.hid (sat_op (kx : Int) hI3.1.s okF hd)
          have HSE := Lib.hid (fun W (h' : SAt W p g (Y.nulF (Y.places (kx : Int)))) => sset_op (w := W) (kx : Int) (d := d.clean) rfl hcw h' okF (HUS.out.trans (by simp)).symm)
          have HS3 := Lib.hid hI3.1.s
          have c2 := hI3.2.1.c
          have z2 := hI3.2.1.lt
          clear hI3 hd okF hwf hcw
          obtain ⟨dch, da, dfa, dhi, dco, dse⟩ := d
          simp only [Cl.clean] at HSE HAT
          gi_wp2_with (first
            | (refine ⟨trivial, ?_⟩; gi_at_call 27; (with_reducible refine (CallsIn.inRound _ (callsIn_wide.2 HAT.out)).mono ?_); rintro e w10 ⟨rfl, hu10⟩; have c10 := ((hu10.at_ w.heap.size z2).1 0).trans c2; have z10 : w.heap.size < w10.heap.size := (by have := hu10.size; omega); have HU10 := Lib.hid hu10; clear hu10)
            | (refine ⟨trivial, ?_⟩; gi_at_call 28; (with_reducible refine (CallsIn.inRound _ (callsIn_wide.2 (HSE.out _ (HS3.out.up (HU10.out.alloc _))))).mono ?_); rintro e w11 ⟨rfl, hs11, hk11⟩; have HS11 := Lib.hid hs11; have HK11 := Lib.hid hk11; clear hs11 hk11))
          obtain ⟨i1, i2, i3, i4, i5, i6⟩ := HI3.out
          have hK := (Keep.of_up (HU10.out.alloc _)).trans HK11.out
          have zpA := i1.s.lt
          have nt : ∀ k, w.heap.size ≤ k → ¬ two p g k := fun k hk e => by rcases e with e | e <;> omega
          have zbb : w.heap.size ≤ b := by omega
          have j2 := i2.past hK (nt _ (Nat.le_refl _))
          have j3 := i3.past hK (nt _ zbb)
          refine ⟨i5.trans (Held.of_keep hK (fun k h => ⟨(i6 k h).2, fun e => by rcases e with rfl | rfl; exact HI.out.1.np h; exact HI.out.1.ng h⟩)), ⟨?_, i1.k.trans hK, HI.out.1.np, HI.out.1.ng, HI.out.1.nw⟩, ⟨j2.c, j2.f, HI.out.2.1.n⟩, ⟨j3.c, j3.f, HI.out.2.2.n⟩⟩
          rw [List.map_append, List.map_cons, List.map_nil, HST.out]
          exact HS11.out
      · gi_wp2
        refine ⟨Held.refl _ _, ?_, HI.out.2.1, HI.out.2.2⟩
        rw [List.map_append, List.map_cons, List.map_nil, HST.out, HUS.out]
        have h1 := HI.out.1
        rw [HYE.out] at h1
        exact h1
    case done =>
      rintro Dd N xs W hD hND hN0 hS ⟨h1, h2, h3⟩ hK
      rw [hS, ← HAE.out] at h1
      obtain ⟨u1, u2⟩ := HUL.out X.attrs
      obtain ⟨Z, hZ⟩ : ∃ Z, unpL X X.attrs = Z := ⟨_, rfl⟩
      have HZE := Lib.hid hZ
      rw [hZ] at h1 u1
      have HS1 := Lib.hid h1.s
      have HNX := Lib.hid (fun W' (h' : SAt W' p g Z) => fnext_is (-1) h' u1)
      obtain ⟨v, hv⟩ : ∃ v, Z.find (-1) 1 = v := ⟨_, rfl⟩
      have HVE := Lib.hid hv
      rw [hv] at HNX
      have HPL := Lib.hid (fun W' (h' : SAt W' p g Z) => splace_is (max v 0) h' u1)
      have c2 := h2.c
      have z2 := h2.lt
      have HI := Lib.hid h1
      have HK := Lib.hid hK
      have HND := Lib.hid hND
      have zD := (Array.getElem?_eq_some_iff.1 hK).1
      have HZD := Lib.hid zD
      clear h1 h2 h3 hK hND hS u1 u2 hZ hv zD
      go_wp2_with fail
      have HFN := Lib.hid (show ∀ w6 u, max v 0 = u → SAt w6 p g (Z.place u) → Keep (two p g) W w6 → Keep (two p g) w (w6.putObj Dd (.deferred none)) ∧ SAt (w6.putObj Dd (.deferred none)) p g ((unpL X X.attrs).place (max ((unpL X X.attrs).find (-1) 1) 0)) ∧ w6.heap[Dd]? = some (.deferred (some [])) from fun w6 u hu hs6 hk6 => by
        have hfin : ScI w _ p g N w6 := ⟨hs6, HI.out.k.trans hk6, HI.out.np, HI.out.ng, HI.out.nw⟩
        have hf2 := hfin.keep (keep_put (.deferred none) HND.out) (fun k h => .inl h)
        exact ⟨hf2.k, by rw [HZE.out, HVE.out, hu]; exact hf2.s, (hk6.block Dd HZD.out (fun e => by rcases e with rfl | rfl; exact HI.out.np HND.out; exact HI.out.ng HND.out)).trans HK.out⟩)
      obtain ⟨u, hu⟩ : ∃ u, max v 0 = u := ⟨_, rfl⟩
      have hmx : (if v < 0 then (0 : Int) else v) = u := by rw [← hu]; split <;> omega
      rw [hu] at HPL
      have HM := Lib.hid hu
      clear hu
      refine wp_region_mixT 4 (NS := []) [] rfl (by kernel_rfl) (by kernel_rfl) (by simp) (by simp) ?_
      simp only [List.take_succ_cons, List.take_zero, List.drop_succ_cons, List.drop_zero]
      repeat (first
        | (refine mix_skip rfl rfl ?_; simp only [Act.put, List.setIfInBounds_toArray, List.set_cons_succ, List.set_cons_zero])
        | (refine mix_q rfl rfl rfl (by kernel_rfl) rfl rfl rfl ?_
           apply Exists.intro
           refine ⟨fun Wm => ?_, ?_⟩
           · simp only [fin]
             skip
             intro K hK
             go_wp2_with ((go_at_call 38; (with_reducible refine (HNX.out _ (HS1.out.up (up_upOf _ _))).mono ?_); rintro e w' ⟨rfl, hux⟩))
             refine hK _ _ ?_ ?_ ?_
             · (repeat (first | with_reducible exact Up.refl _ | with_reducible refine Up.alloc ?_ _ | with_reducible refine Up.drew ?_ | with_reducible refine Up.drewN ?_ _ | with_reducible refine Up.setCell ?_ (by (try simp) <;> omega) _ | with_reducible assumption | with_reducible refine Up.trans ?_ (by assumption)))
             · rfl
             · exact tmps_at rfl
           simp only [Act.put, List.setIfInBounds_toArray, List.set_cons_succ, List.set_cons_zero]))
      refine mix_nil ?_
      intro w5 hb_w5
      simp only [fin]
      have hu_w5 : Up W w5 := by (repeat (first | with_reducible exact Up.refl _ | with_reducible refine Up.alloc ?_ _ | with_reducible refine Up.drew ?_ | with_reducible refine Up.drewN ?_ _ | with_reducible refine Up.setCell ?_ (by (try simp) <;> omega) _ | with_reducible assumption | with_reducible refine Up.trans ?_ (by assumption)))
      have hz_w5 := Up.size hb_w5
      try simp at hz_w5
      obtain ⟨bc_w5_0, bf_w5_0⟩ := hu_w5.at_ (w.heap.size) (by omega)
      have zb_w5_0 : w.heap.size < w5.heap.size := by omega
      go_wp2_with fail
      refine (HPL.out _ (HS1.out.up hb_w5)).mono ?_
      rintro e w6 ⟨rfl, hs6, hk6⟩
      have HR := Lib.hid (HFN.out w6 _ HM.out hs6 ((Keep.of_up hb_w5).trans hk6))
      clear hs6 hk6
      go_wp2_with fail
      exact ⟨by simp, .inl ⟨_, _, rfl, run_takeDeferred HR.out.2.2, ⟨_, results_none rfl _ _ _, rfl, HR.out.2.1, HR.out.1⟩⟩⟩
end Go.Proofs.Ytjokcfenncogkaa
namespace Go.Proofs.Ytjokcfenncogkaa
open Go.RowKit Go.Shelf
set_option linter.unusedVariables false
set_option linter.unusedSimpArgs false

/-- how many places there are between two -/
def Spc.lenA (X : Spc) (a b : Int) : Nat := (lenN X.r X.c a b).toNat
theorem lenA_is {X : Spc} (ok : X.Ok) (a b : Int) : (X.lenA a b : Int) = lenN X.r X.c a b := by
  have h := Spc.pos ok
  have hm := Int.emod_nonneg (b - a) (show X.r * X.c ≠ 0 by omega)
  have : 0 ≤ lenN X.r X.c a b := by
    unfold lenN
    split <;> omega
  unfold Spc.lenA
  omega
def Spc.betw (X : Spc) (a b : Int) : List Int := placesN (a % (X.r * X.c)) (X.r * X.c) (X.lenA a b)
def Spc.do4 (X : Spc) (d n t : Int) (c : Cl) : Spc := if d = 0 then X.unpA else if d = 1 then X.rngA (X.betw n t) else if d = 2 then X.repA (X.betw n t) c else if X.open_ n then X.endA n else X
theorem do4_ok {X : Spc} (ok : X.Ok) (d n t : Int) {c : Cl} (hc : c.Wf) : (X.do4 d n t c).Ok := by
  unfold Spc.do4
  split
  · exact unpA_ok ok
  split
  · exact rngA_ok ok _
  split
  · exact (repA_ok ok _ hc).1
  split
  · exact endA_ok ok n
  · exact ok
theorem do4_twice {X : Spc} (ok : X.Ok) (d n t : Int) {c : Cl} (hc : c.Wf) : (X.do4 d n t c).do4 d n t c = X.do4 d n t c := by
  unfold Spc.do4
  by_cases h0 : d = 0
  · simp only [if_pos h0]; exact unpA_twice ok
  simp only [if_neg h0]
  by_cases h1 : d = 1
  · simp only [if_pos h1]; exact rngA_twice ok _
  simp only [if_neg h1]
  by_cases h2 : d = 2
  · simp only [if_pos h2]
    have e : (X.repA (X.betw n t) c).betw n t = X.betw n t := by
      obtain ⟨_, k1, k2⟩ := repA_ok ok (X.betw n t) hc
      unfold Spc.betw Spc.lenA at k1 k2 ⊢
      rw [k1, k2]
    rw [e]
    exact repA_twice ok _ hc
  simp only [if_neg h2]
  by_cases h3 : X.open_ n = true
  · rw [if_pos h3, if_pos (by
      have := modify_open (chs_ok ok (endG_b (ch0_b ok) (X.restL n))) n n
      rw [chs_open] at this
      exact this.trans h3)]
    exact endA_twice ok n
  · rw [if_neg h3, if_neg h3]
def Spc.ans4 (X : Spc) (d n t : Int) : Int := if d = 2 then (X.lenA n t : Int) else if d = 3 then (if X.open_ n then 1 else 0) else 0
set_option maxHeartbeats 1600000 in
theorem do4_is {p g : Nat} {X : Spc} {w : World} (d n t : Int) (c : Cl) (d0 : 0 ≤ d) (d3 : d ≤ 3) (hc : c.Wf) (hs : SAt w p g X) (ok : X.Ok) :
    Calls Try.prog 103 #[.pointer (some ⟨p, 0, none⟩), .agg #[.int .u8 d, .int .i64 n, .int .i64 t, .int .u8 c.ch, .bool c.at_, .int .u8 c.fa, .int .u8 c.hi, .int .u8 c.co, .int .u8 c.se]] w fun e w' => e = .returned (.int .i64 (X.ans4 d n t)) ∧ SAt w' p g (X.do4 d n t c) ∧ Keep (two p g) w w' := by
  have HS := Lib.hid hs
  have H0 := Lib.hid (fun W (h : SAt W p g X) => cunp_is h ok)
  have H1 := Lib.hid (fun W (h : SAt W p g X) => crange_is (a := n) (b := t) (lenA_is ok n t) h ok)
  have H2 := Lib.hid (fun W (h : SAt W p g X) => crepeat_is (a := n) (b := t) hc (lenA_is ok n t) h ok)
  have H3 := Lib.hid (fun W (h : SAt W p g X) => cend_yes (n := n) h ok)
  have H4 := Lib.hid (fun W (h : SAt W p g X) => cend_no (n := n) h ok)
  obtain ⟨ch, at_, fa, hi, co, se⟩ := c
  simp only at H2 ⊢
  clear hs ok hc
  rcases (show d = 0 ∨ d = 1 ∨ d = 2 ∨ d = 3 by omega) with rfl | rfl | rfl | rfl
  · have ea : X.ans4 0 n t = 0 := rfl
    have ed : ∀ c, X.do4 0 n t c = X.unpA := fun c => rfl
    rw [ea, ed]
    clear ea ed
    go_enter Try.func103, Try.ntmps103
    go_wp2_with fail
    have HU0 := Lib.hid ((Up.refl w).alloc (.cells #[.int .u8 0, .int .i64 n, .int .i64 t, .int .u8 ch, .bool at_, .int .u8 fa, .int .u8 hi, .int .u8 co, .int .u8 se] 110))
    refine (H0.out _ (HS.out.up HU0.out)).mono ?_
    rintro e w1 ⟨rfl, hs1, hk1⟩
    have HR := Lib.hid (show SAt w1 p g X.unpA ∧ Keep (two p g) w w1 from ⟨hs1, (Keep.of_up HU0.out).trans hk1⟩)
    clear hs1 hk1
    go_wp2_with fail
    go_ret
    exact ⟨rfl, HR.out⟩
  · have ea : X.ans4 1 n t = 0 := rfl
    have ed : ∀ c, X.do4 1 n t c = X.rngA (X.betw n t) := fun c => rfl
    rw [ea, ed]
    clear ea ed
    go_enter Try.func103, Try.ntmps103
    go_wp2_with fail
    have HU0 := Lib.hid ((Up.refl w).alloc (.cells #[.int .u8 1, .int .i64 n, .int .i64 t, .int .u8 ch, .bool at_, .int .u8 fa, .int .u8 hi, .int .u8 co, .int .u8 se] 110))
    refine (H1.out _ (HS.out.up HU0.out)).mono ?_
    rintro e w1 ⟨rfl, hs1, hk1⟩
    have HR := Lib.hid (show SAt w1 p g (X.rngA (X.betw n t)) ∧ Keep (two p g) w w1 from ⟨hs1, (Keep.of_up HU0.out).trans hk1⟩)
    clear hs1 hk1
    go_wp2_with fail
    go_ret
    exact ⟨rfl, HR.out⟩
  · have ea : X.ans4 2 n t = (X.lenA n t : Int) := rfl
    have ed : ∀ c, X.do4 2 n t c = X.repA (X.betw n t) c := fun c => rfl
    rw [ea, ed]
    clear ea ed
    go_enter Try.func103, Try.ntmps103
    go_wp2_with fail
    have HU0 := Lib.hid ((Up.refl w).alloc (.cells #[.int .u8 2, .int .i64 n, .int .i64 t, .int .u8 ch, .bool at_, .int .u8 fa, .int .u8 hi, .int .u8 co, .int .u8 se] 110))
    refine (H2.out _ (HS.out.up HU0.out)).mono ?_
    rintro e w1 ⟨rfl, hs1, hk1⟩
    have HR := Lib.hid (show SAt w1 p g (X.repA (X.betw n t) ⟨ch, at_, fa, hi, co, se⟩) ∧ Keep (two p g) w w1 from ⟨hs1, (Keep.of_up HU0.out).trans hk1⟩)
    clear hs1 hk1
    go_wp2_with fail
    go_ret
    exact ⟨rfl, HR.out⟩
  · cases ho : X.open_ n
    · have ea : X.ans4 3 n t = 0 := by unfold Spc.ans4; rw [ho]; rfl
      have ed : ∀ c, X.do4 3 n t c = X := fun c => by unfold Spc.do4; rw [ho]; rfl
      rw [ea, ed]
      clear ea ed
      go_enter Try.func103, Try.ntmps103
      have HO := Lib.hid ho
      clear ho
      go_wp2_with fail
      have HU0 := Lib.hid ((Up.refl w).alloc (.cells #[.int .u8 3, .int .i64 n, .int .i64 t, .int .u8 ch, .bool at_, .int .u8 fa, .int .u8 hi, .int .u8 co, .int .u8 se] 110))
      refine (H4.out _ (HS.out.up HU0.out) HO.out).mono ?_
      rintro e w1 ⟨rfl, hu1⟩
      have HR := Lib.hid (show SAt w1 p g X ∧ Keep (two p g) w w1 from ⟨HS.out.up (HU0.out.trans hu1), Keep.of_up (HU0.out.trans hu1)⟩)
      clear hu1
      go_wp2_with fail
      go_ret
      exact ⟨rfl, HR.out⟩
    · have ea : X.ans4 3 n t = 1 := by unfold Spc.ans4; rw [ho]; rfl
      have ed : ∀ c, X.do4 3 n t c = X.endA n := fun c => by unfold Spc.do4; rw [ho]; rfl
      rw [ea, ed]
      clear ea ed
      go_enter Try.func103, Try.ntmps103
      have HO := Lib.hid ho
      clear ho
      go_wp2_with fail
      have HU0 := Lib.hid ((Up.refl w).alloc (.cells #[.int .u8 3, .int .i64 n, .int .i64 t, .int .u8 ch, .bool at_, .int .u8 fa, .int .u8 hi, .int .u8 co, .int .u8 se] 110))
      refine (H3.out _ (HS.out.up HU0.out) HO.out).mono ?_
      rintro e w1 ⟨rfl, hs1, hk1⟩
      have HR := Lib.hid (show SAt w1 p g (X.endA n) ∧ Keep (two p g) w w1 from ⟨hs1, (Keep.of_up HU0.out).trans hk1⟩)
      clear hs1 hk1
      go_wp2_with fail
      go_ret
      exact ⟨rfl, HR.out⟩
end Go.Proofs.Ytjokcfenncogkaa
