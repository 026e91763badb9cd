/-
  field's Places as an iterator. It writes the box of its start. No condition.
-/
import Derived.Test.YtjokcfenncogkaaFld1
namespace Go.Proofs.Ytjokcfenncogkaa
open Go.RowKit Go.Shelf
set_option linter.unusedVariables false
set_option linter.unusedSimpArgs false
attribute [local go_sem] Oper.semAt_some

/-- as large, and its attributes where the other's are -/
structure Alike (X Y : Spc) : Prop where
  r : Y.r = X.r
  c : Y.c = X.c
  at_ : ∀ n, Y.isA n = X.isA n
theorem Alike.refl (X : Spc) : Alike X X := ⟨rfl, rfl, fun _ => rfl⟩
/-- a space like X, and the box with its place -/
def SeeP (X : Spc) (p b : Nat) (W : World) : Prop := ∃ g Y, SAt W p g Y ∧ Y.Ok ∧ Alike X Y ∧ W.cell? ⟨b, 0, none⟩ = some (.pointer (some ⟨p, 0, none⟩))
theorem enters_places : ∀ args w, (callFunc 130 args).run Try.prog w = .ok (.enter 130 args) w := enters_of Try.func130 (by kernel_rfl) rfl
theorem places_val (v : Option Addr) (n : Int) (w : World) :
    Calls Try.prog 74 #[.pointer v, .int .i64 n] w fun e w' => ∃ b b2, e = .returned (.func (.func 130) #[] #[.pointer (some ⟨b, 0, none⟩), .pointer (some ⟨b2, 0, none⟩)]) ∧ b = w.heap.size ∧ b2 = w.heap.size + 1 ∧ w'.heap.size = w.heap.size + 2 ∧ w'.cell? ⟨b, 0, none⟩ = some (.pointer v) ∧ w'.cell? ⟨b2, 0, none⟩ = some (.int .i64 n) ∧ w'.frozen? ⟨b2, 0, none⟩ = false ∧ Up w w' := by
  go_enter Try.func74, Try.ntmps74
  go_wp2
  go_ret
  exact ⟨w.heap.size, w.heap.size + 1, by simp, rfl, rfl, by simp, by simp [go_sem], by simp [go_sem], by simp [go_sem], by (repeat (first | with_reducible exact Up.refl _ | with_reducible refine Up.alloc ?_ _ | with_reducible refine Up.drew ?_ | with_reducible refine Up.drewN ?_ _ | with_reducible refine Up.setCell ?_ (by (try simp) <;> omega) _ | with_reducible assumption | with_reducible refine Up.trans ?_ (by assumption)))⟩
theorem stepsL_pre {X : Spc} {a : Int} {j n : Nat} (h : j ≤ n) : stepsL X a j <+: stepsL X a n := by
  induction n with
  | zero => obtain rfl : j = 0 := by omega
            exact List.prefix_refl _
  | succ n ih =>
    rcases Nat.lt_or_ge n j with h1 | h1
    · obtain rfl : j = n + 1 := by omega
      exact List.prefix_refl _
    · rw [stepsL_succ]; exact (ih h1).trans (List.prefix_append _ _)
theorem places_pre {X : Spc} {a : Int} {j : Nat} (h : X.isA a = true) (hj : j < X.cnt a) : stepsL X a j ++ [(a + 1 + j) % (X.r * X.c)] <+: X.places a := by
  unfold Spc.places
  rw [if_pos h, ← stepsL_succ]
  exact stepsL_pre (by omega)
theorem see_at {X Y : Spc} {W : World} {p g : Nat} (hal : Alike X Y) (hs : SAt W p g Y) (ok : Y.Ok) (n : Int) : Calls Try.prog 27 #[.pointer (some ⟨p, 0, none⟩), .int .i64 n] W fun e w' => (∃ ch fa hi co se : Int, e = .returned (.agg #[.int .u8 ch, .bool (X.isA n), .int .u8 fa, .int .u8 hi, .int .u8 co, .int .u8 se])) ∧ Up W w' := by
  refine (sat_op n hs ok rfl).mono ?_
  rintro e w' ⟨rfl, hu⟩
  refine ⟨⟨(Y.at_ n).ch, (Y.at_ n).fa, (Y.at_ n).hi, (Y.at_ n).co, (Y.at_ n).se, ?_⟩, hu⟩
  rw [← hal.at_ n]; rfl
set_option maxRecDepth 100000 in
set_option maxHeartbeats 6400000 in
theorem places_it {X : Spc} (ok : X.Ok) {p b b2 : Nat} {a : Int} : ItN Try.prog 130 #[.pointer (some ⟨b, 0, none⟩), .pointer (some ⟨b2, 0, none⟩)] (fun x : Int => #[.int .i64 x]) (fun k => k = b2) (fun W => W.cell? ⟨b2, 0, none⟩ = some (.int .i64 a) ∧ W.frozen? ⟨b2, 0, none⟩ = false) (SeeP X p b) (fun pre x _ => pre ++ [x] <+: X.places a) (· = X.places a) (· <+: X.places a) := by
  intro k l J Jx N0 W hJ hJx hV hT hNz hV0 hY h0
  refine callsIn_of_wp Try.func130 rfl trivial ?_ rfl
  simp only [Try.ntmps130, List.size_toArray, List.length_cons, List.length_nil, Nat.reduceAdd, Nat.reduceSub, Array.replicate_succ, Array.replicate_zero, List.push_toArray, List.append_toArray, List.nil_append, List.cons_append]
  obtain ⟨g, Y, hs, okY, hal, hb⟩ := hV _ _ _ h0
  obtain ⟨q1, q2⟩ := hV0
  have zb := cell_lt hb
  have zb2 := cell_lt q1
  simp only at zb zb2
  have hNb2 : N0 b2 := hT _ rfl
  have HSZ := Lib.hid (ssize_is hs)
  rw [hal.r, hal.c] at HSZ
  have HV := Lib.hid ok.valid
  have HWG := Lib.hid (fun n W => wrap_good X.r X.c n W HV.out)
  have hm0 := Spc.pos ok
  have hln := ok.len
  have hsm := ok.small
  have HY := Lib.hid hY
  have HJ := Lib.hid hJ
  have HJx := Lib.hid hJx
  have HVV := Lib.hid hV
  have H0 := Lib.hid h0
  have HNZ := Lib.hid hNz
  have HOK := Lib.hid ok
  clear hY hJ hJx hV h0 hT hNz hs okY hal ok
  refine wpIn_wide.2 ?_
  go_wp2_with fail
  refine HSZ.out.mono ?_
  rintro e w1 ⟨rfl, hu1⟩
  have z1 := hu1.size
  have b1 := ((hu1.at_ b zb).1 0).trans hb
  have d1 := ((hu1.at_ b2 zb2).1 0).trans q1
  have f1 := ((hu1.at_ b2 zb2).2 0).trans q2
  have zb' : b < w1.heap.size := by omega
  have zb2' : b2 < w1.heap.size := by omega
  clear hb q1 q2
  go_wp2_with fail
  refine (HWG.out a _).mono ?_
  rintro e w2 ⟨rfl, hu2⟩
  have z2 := hu2.size
  simp at z2
  have hb2 := hu2.at_ w1.heap.size (by simp)
  have k0 := (hb2.1 0).trans (by simp [go_sem] : _ = some (.int .i64 X.r))
  have k1 := (hb2.1 1).trans (by simp [go_sem] : _ = some (.int .i64 X.c))
  have hbb := hu2.at_ b (by simp; omega)
  have hbd := hu2.at_ b2 (by simp; omega)
  have b3 := (hbb.1 0).trans (by simpa [go_sem, World.cell?_alloc_lt _ _ ⟨b, 0, none⟩ zb'] using b1 : _ = some (.pointer (some ⟨p, 0, none⟩)))
  have d3 := (hbd.1 0).trans (by simpa [go_sem, World.cell?_alloc_lt _ _ ⟨b2, 0, none⟩ zb2'] using d1 : _ = some (.int .i64 a))
  have f3 := (hbd.2 0).trans ((((Up.refl w1).alloc _).at_ b2 zb2').2 0 |>.trans f1)
  have hne : b ≠ b2 := fun e => by subst e; rw [b3] at d3; cases d3
  have HJ2 := Lib.hid (show J (fun k => N0 k ∨ k = w1.heap.size) [] (w2.setCell ⟨b2, 0, none⟩ (.int .i64 (a % (X.r * X.c)))) from HJ.out _ _ _ _ _ H0.out (((Keep.of_up (hu1.trans (((Up.refl w1).alloc _).trans hu2)))).setCell (.inl hNb2) _) (fun k hk => by
    rcases hk with h | rfl
    · exact .inl h
    · exact .inr ⟨z1, by simp [World.setCell]; omega⟩))
  have hfz : (w2.alloc (.cells #[] 0)).heap.size = w2.heap.size + 1 := by simp
  obtain ⟨W3, hW3⟩ : ∃ W3, w2.setCell ⟨b2, 0, none⟩ (.int .i64 (a % (X.r * X.c))) = W3 := ⟨_, rfl⟩
  have z3 : W3.heap.size = w2.heap.size := by rw [← hW3]; simp [World.setCell]
  have b4 : W3.cell? ⟨b, 0, none⟩ = some (.pointer (some ⟨p, 0, none⟩)) := by rw [← hW3]; exact (World.cell?_setCell_other _ _ _ _ (by simp <;> exact fun e => hne e.symm)).trans b3
  have d4 : W3.cell? ⟨b2, 0, none⟩ = some (.int .i64 (a % (X.r * X.c))) := by rw [← hW3]; exact World.cell?_setCell_same (h := d3) ..
  have k4 : W3.cell? ⟨w1.heap.size, 0, none⟩ = some (.int .i64 X.r) := by rw [← hW3]; exact (World.cell?_setCell_other _ _ _ _ (by simp <;> omega)).trans k0
  have k5 : W3.cell? ⟨w1.heap.size, 1, none⟩ = some (.int .i64 X.c) := by rw [← hW3]; exact (World.cell?_setCell_other _ _ _ _ (by simp <;> omega)).trans k1
  rw [hW3] at HJ2
  obtain ⟨g2, Y2, hs2, ok2, hal2, hb2'⟩ := HVV.out _ _ _ (HJ.out.less HJ2.out (fun k h => .inl h) : J N0 [] W3)
  have HAT := Lib.hid (see_at hal2 hs2 ok2 (a % (X.r * X.c)))
  rw [Spc.isA_emod] at HAT
  clear hs2 ok2 hal2 hb2' hb2 hbb hbd hu1 hu2 b1 d1 f1
  go_wp2_with fail
  try simp only [hW3]
  try go_wp2_with fail
  refine HAT.out.mono ?_
  rintro e w4 ⟨⟨ch, fa, hi, co, se, rfl⟩, hu4⟩
  have fC := fldC1
  have z4 := hu4.size
  have HJ4 := Lib.hid (HJ.out.up HJ2.out hu4)
  have zk : w1.heap.size < W3.heap.size := by omega
  have zb3 : b2 < W3.heap.size := by omega
  have zb4 : b < W3.heap.size := by omega
  have m0 := ((hu4.at_ w1.heap.size zk).1 0).trans k4
  have m1 := ((hu4.at_ w1.heap.size zk).1 1).trans k5
  have m2 := ((hu4.at_ b2 zb3).1 0).trans d4
  have m3 := ((hu4.at_ b zb4).1 0).trans b4
  clear hu4 k4 k5 d4 b4 b3 d3 f3 k0 k1 hW3 HAT
  have HIS := Lib.hid (show X.isA a = true → _ from fun h => cnt_is HOK.out h)
  obtain ⟨ia, hia⟩ : ∃ ia, X.isA a = ia := ⟨_, rfl⟩
  rw [hia]
  have HIA := Lib.hid hia
  clear hia
  cases ia
  · go_wp2_with fail
    refine bodyPost_ret (results_none rfl _ _ _) rfl ?_
    refine ⟨⟨_, rfl⟩, .inl ⟨[], ?_, HJ.out.less HJ4.out (fun k h => .inl h)⟩⟩
    unfold Spc.places
    rw [HIA.out]; rfl
  · have hlo : 0 ≤ a % (X.r * X.c) := Int.emod_nonneg _ (by omega)
    have hhi : a % (X.r * X.c) < X.r * X.c := Int.emod_lt_of_pos _ hm0
    go_wp2_with fail
    refine (HWG.out _ _).mono ?_
    rintro e w5 ⟨rfl, hu5⟩
    have HJ5 := Lib.hid (HJ.out.up HJ4.out hu5)
    have zk4 : w1.heap.size < w4.heap.size := by omega
    have n0 := ((hu5.at_ w1.heap.size zk4).1 0).trans m0
    have n1 := ((hu5.at_ w1.heap.size zk4).1 1).trans m1
    obtain ⟨i1, i2, i3⟩ := HIS.out HIA.out
    have HI2 := Lib.hid i2
    have HI3 := Lib.hid i3
    have he5 : (a % (X.r * X.c) + 1) % (X.r * X.c) = (a + 1 + ((0 : Nat) : Int)) % (X.r * X.c) := by rw [Int.emod_add_emod]; congr 1; omega
    rw [he5]
    have HPL := Lib.hid (show stepsL X a (X.cnt a) = X.places a by unfold Spc.places; rw [if_pos HIA.out])
    have HPP := Lib.hid (fun j (hj : j < X.cnt a) => places_pre HIA.out hj)
    obtain ⟨M, hM⟩ : ∃ M, X.r * X.c = M := ⟨_, rfl⟩
    obtain ⟨cn, hcn⟩ : ∃ cn, X.cnt a = cn := ⟨_, rfl⟩
    have HSE := Lib.hid (fun W p g Y n (h1 : Alike X Y) (h2 : SAt W p g Y) (h3 : Y.Ok) => see_at h1 h2 h3 (n % (X.r * X.c)))
    have HIE := Lib.hid (fun n => Spc.isA_emod X n)
    have HSS := Lib.hid (fun n => stepsL_succ X a n)
    rw [hM] at hm0 hln HWG HPP HSE HIE HSS hlo hhi ⊢
    rw [hcn] at i1 HI2 HI3 HPL HPP
    clear m0 m1 m2 m3 hu5 i2 i3 HIS hM hcn he5
    go_wp2_with fail
    refine (wpIn_wide (n := k)).1 ?_
    gi_loopw [5] (fun i wr => ∃ j : Nat, j ≤ cn ∧ i = .int .i64 ((a + 1 + (j : Int)) % M) ∧ J (fun k => N0 k ∨ k = w1.heap.size) (stepsL X a j) wr ∧ wr.cell? ⟨w1.heap.size, 0, none⟩ = some (.int .i64 X.r) ∧ wr.cell? ⟨w1.heap.size, 1, none⟩ = some (.int .i64 X.c)) (fun i _ => (((a + 1 + (cn : Int)) % M - intOf i) % M).toNat)
    case atStart => exact ⟨0, by omega, by simp, HJ5.out, n0, n1⟩
    case round =>
      obtain ⟨j, hj, rfl, hJs, c0, c1⟩ := hrel
      obtain ⟨g', Y', hs', ok', hal', hbc⟩ := HVV.out _ _ _ (HJ.out.less hJs (fun k h => .inl h) : J N0 _ wr)
      have HATJ := Lib.hid (HSE.out wr p g' Y' (a + 1 + (j : Int)) hal' hs' ok')
      rw [HIE.out] at HATJ
      have HJS := Lib.hid hJs
      have hlj : 0 ≤ (a + 1 + (j : Int)) % M := Int.emod_nonneg _ (by omega)
      have hhj : (a + 1 + (j : Int)) % M < M := Int.emod_lt_of_pos _ hm0
      clear hJs hs' ok' hal'
      by_cases hd : j = cn
      · subst hd
        rw [HI2.out] at HATJ
        gi_wp2_with (refine ⟨trivial, (fun h => by simp [Fence.wide] at h), ?_⟩; gi_at_call 27; (with_reducible refine (callsIn_wide.2 HATJ.out).mono ?_); rintro e w9 ⟨⟨ch9, fa9, hi9, co9, se9, rfl⟩, hu9⟩)
        go_end0
        exact ⟨⟨_, rfl⟩, .inl ⟨_, HPL.out, HJ.out.less (HJ.out.up HJS.out hu9) (fun k h => .inl h)⟩⟩
      · rw [HI3.out j (by omega)] at HATJ
        have HPJ := Lib.hid (HPP.out j (by omega))
        have HVE := Lib.hid (show ((a + 1 + (j : Int)) % M + 1) % M = (a + 1 + ((j + 1 : Nat) : Int)) % M by rw [Int.emod_add_emod]; congr 1; omega)
        have HDJ := Lib.hid (show (((a + 1 + (cn : Int)) % M - (a + 1 + (j : Int)) % M) % M).toNat = cn - j from dist_up (n := a + 1) hj (by omega))
        have HDK := Lib.hid (show (((a + 1 + (cn : Int)) % M - (a + 1 + ((j + 1 : Nat) : Int)) % M) % M).toNat = cn - (j + 1) from dist_up (n := a + 1) (by omega) (by omega))
        obtain ⟨v, hv⟩ : ∃ v, (a + 1 + (j : Int)) % M = v := ⟨_, rfl⟩
        have HSJ := Lib.hid (HSS.out j)
        rw [hv] at HATJ HPJ HVE HSJ HDJ hlj hhj ⊢
        clear hv
        have zw : w1.heap.size < wr.heap.size := cell_lt c0
        gi_wp2_with (refine ⟨trivial, (fun h => by simp [Fence.wide] at h), ?_⟩; gi_at_call 27; (with_reducible refine (callsIn_wide.2 HATJ.out).mono ?_); rintro e w9 ⟨⟨ch9, fa9, hi9, co9, se9, rfl⟩, hu9⟩; obtain ⟨fn, tmps, assign, body, hy, hR⟩ := HY.out (fun k => N0 k ∨ k = w1.heap.size) (stepsL X a j) v w9 (HJ.out.up HJS.out hu9) HPJ.out; have HRR := Lib.hid hR; clear hR; have c0' := ((hu9.at_ w1.heap.size zw).1 0).trans c0; have c1' := ((hu9.at_ w1.heap.size zw).1 1).trans c1; clear hu9)
        refine ⟨fun h => by simp [Fence.wide] at h, ?_⟩
        refine HRR.out.mono ?_
        rintro e W' (⟨rfl, hJ', hh⟩ | ⟨rfl, hJ', hh⟩)
        · have HJ' := Lib.hid hJ'
          have eb : W'.heap[w1.heap.size]? = w9.heap[w1.heap.size]? := hh _ (.inr rfl)
          have c0'' := (World.cell?_of_block (a := ⟨w1.heap.size, 0, none⟩) eb).trans c0'
          have c1'' := (World.cell?_of_block (a := ⟨w1.heap.size, 1, none⟩) eb).trans c1'
          clear hJ' hh eb hy
          gi_wp2_with (refine ⟨trivial, (fun h => by simp [Fence.wide] at h), ?_⟩; gi_at_call 112; (with_reducible refine (callsIn_wide.2 (HWG.out _ _)).mono ?_); rw [HVE.out]; rintro e w10 ⟨rfl, hu10⟩)
          have zw' : w1.heap.size < W'.heap.size := cell_lt c0''
          go_roundw
          case rel => exact ⟨j + 1, by omega, rfl, by rw [HSJ.out]; exact HJ.out.up HJ'.out hu10, ((hu10.at_ w1.heap.size zw').1 0).trans c0'', ((hu10.at_ w1.heap.size zw').1 1).trans c1''⟩
          case measure =>
            show (((a + 1 + (cn : Int)) % M - intOf (.int .i64 ((a + 1 + ((j + 1 : Nat) : Int)) % M))) % M).toNat < (((a + 1 + (cn : Int)) % M - intOf (.int .i64 v)) % M).toNat
            simp only [intOf]
            rw [HDJ.out, HDK.out]
            omega
        · have HX := Lib.hid hJ'
          clear hJ' hh hy
          gi_wp2
          refine bodyPost_ret (results_none rfl _ _ _) rfl ?_
          exact ⟨⟨_, rfl⟩, .inr ⟨_, HPJ.out, HJx.out.less HX.out (fun k h => .inl h)⟩⟩
end Go.Proofs.Ytjokcfenncogkaa
