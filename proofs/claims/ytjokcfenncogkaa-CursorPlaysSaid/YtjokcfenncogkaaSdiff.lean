/-
  space's Diff of two with the same cells: none. No condition.
-/
import Derived.Test.YtjokcfenncogkaaItAttrs
import Derived.Test.YtjokcfenncogkaaMixIn
import Derived.Test.YtjokcfenncogkaaEqC
namespace Go.Proofs.Ytjokcfenncogkaa
open Go.RowKit Go.Shelf
set_option linter.unusedVariables false
set_option linter.unusedSimpArgs false
attribute [local go_sem] Oper.semAt_some

set_option maxRecDepth 100000 in
set_option maxHeartbeats 6400000 in
theorem sdiff_is {p g p' g' : Nat} {X Y : Spc} {w : World} (hs : SAt w p g X) (hs' : SAt w p' g' Y) (ok : X.Ok) (ok' : Y.Ok) (hL : Y.L = X.L) (hrr : Y.r = X.r) (hcc : Y.c = X.c) :
    Calls Try.prog 69 #[.pointer (some ⟨p, 0, none⟩), .pointer (some ⟨p', 0, none⟩)] w fun e w' => e = .returned (.slice none 0 0) ∧ Up w w' := by
  have HS := Lib.hid hs
  have HS' := Lib.hid hs'
  have HO := Lib.hid ok
  obtain ⟨m, hm⟩ : ∃ m, X.L.length = m := ⟨_, rfl⟩
  have HM := Lib.hid hm
  have HY := Lib.hid (show ∀ (j : Nat) (c : Cl), X.L[j]? = some c → Y.at_ (j : Int) = c from fun j c hc => by
    have h1 := Spc.at_nat ok' (j := j) (by rw [hL]; exact (List.getElem?_eq_some_iff.1 hc).1)
    rw [hL, hc] at h1
    injection h1 with h1
    exact h1.symm)
  have HA := Lib.hid (fun W (j : Nat) (c : Cl) (h : SAt W p' g' Y) (hc : Y.at_ (j : Int) = c) => (show Calls Try.prog 27 #[.pointer (some ⟨p', 0, none⟩), .int .i64 (j : Int)] W fun e w' => e = .returned c.val ∧ Up W w' from hc ▸ sat_is (j : Int) h ok'))
  have HZ1 := Lib.hid (fun W (h : SAt W p g X) => ssize_is h)
  have HZ2 := Lib.hid (fun W (h : SAt W p' g' Y) => ssize_is h)
  rw [hrr, hcc] at HZ2
  have hsm := ok.small
  rw [hm] at hsm
  clear hs hs' ok ok' hm hL hrr hcc
  refine (callsIn_wide (n := 9)).1 ?_
  refine callsIn_of_wp_marks Try.func69 rfl trivial ?_ rfl
  simp only [Try.ntmps69, List.size_toArray, List.length_cons, List.length_nil, Nat.reduceAdd, Nat.reduceSub, Array.replicate_succ, Array.replicate_zero, List.push_toArray, List.append_toArray, List.nil_append, List.cons_append]
  refine wpIn_wide.2 ?_
  go_wp2_with fail
  refine (all_val _ _).mono ?_
  rintro e w3 ⟨b2, rfl, hb2, hb2', hc2, -, hu3⟩
  simp at hb2
  have hk : ∀ k, k < w.heap.size + 1 + 1 + 1 → _ := fun k hk => hu3.at_ k (by (try simp) <;> omega)
  have c0 : w3.cell? ⟨w.heap.size, 0, none⟩ = some (.pointer (some ⟨p, 0, none⟩)) := ((hk _ (by omega)).1 0).trans (by simp [go_sem])
  have c1 : w3.cell? ⟨w.heap.size + 1, 0, none⟩ = some (.pointer (some ⟨p', 0, none⟩)) := ((hk _ (by omega)).1 0).trans (by simp [go_sem])
  have c2 : w3.cell? ⟨w.heap.size + 1 + 1, 0, none⟩ = some (.slice none 0 0) := ((hk _ (by omega)).1 0).trans (by simp [go_sem])
  have uw : Up w w3 := by (repeat (first | with_reducible exact Up.refl _ | with_reducible refine Up.alloc ?_ _ | with_reducible refine Up.drew ?_ | with_reducible refine Up.drewN ?_ _ | with_reducible refine Up.setCell ?_ (by (try simp) <;> omega) _ | with_reducible assumption | with_reducible refine Up.trans ?_ (by assumption)))
  have hzw := hu3.size
  simp at hzw
  have HU := Lib.hid uw
  have HC2 := Lib.hid hc2
  have HC := Lib.hid (show _ ∧ _ ∧ _ from ⟨c0, c1, c2⟩)
  clear hk hu3 uw hc2
  go_wp2_with fail
  clear c0 c1 c2
  refine wpIn_wide.1 (range_n (n := 9) (gf := 158) (lb := #[.pointer (some ⟨b2, 0, none⟩)]) rfl enters_all (all_it (p := p) (m := m) (b := b2) (Q := fun Y => Y.L = X.L)) (fun _ => rfl)
    (fun _ => False) (fun k hk => hk.elim) (fun k hk => hk.elim) (fun _ _ => trivial)
    (fun N pre W => Up w3 W ∧ ∀ k, N k → w3.heap.size ≤ k) (fun c N xs W => False)
    (fun N N' s A A' h hk hn => ⟨h.1.keep hk h.2, fun k hk' => by rcases hn k hk' with h1 | h1; exact h.2 k h1; have := h.1.size; omega⟩) (fun _ _ _ _ _ _ h _ _ => h)
    ?see ⟨Up.refl _, fun k h => h.elim⟩
    (fun pre x a' N W' => X.L[x.1]? = some x.2 ∧ ∃ bx, a' = { tmps := #[.pointer (some ⟨p, 0, none⟩), .pointer (some ⟨p', 0, none⟩), .pointer (some ⟨w.heap.size, 0, none⟩), .pointer (some ⟨w.heap.size + 1, 0, none⟩), .slice none 0 0, .pointer (some ⟨w.heap.size + 1 + 1, 0, none⟩), .int .i64 (x.1 : Int), .pointer (some ⟨bx, 0, none⟩), .pointer (some ⟨p, 0, none⟩), .func (.func 158) #[] #[.pointer (some ⟨b2, 0, none⟩)], .int .i64 (x.1 : Int), x.2.val, undef, undef, undef, undef, undef, undef, undef, undef, undef, undef, undef, undef, undef, undef, undef, undef, undef], defers := [] } ∧
      CellAt W' bx 0 x.2 ∧ ¬ N bx ∧ w3.heap.size ≤ bx)
    ?ownax ?assign ?body ?done (fun _ _ _ _ _ _ _ _ _ h _ => h.elim))
  case see =>
    rintro N pre W ⟨h1, h2⟩
    exact ⟨g, X, HS.out.up (HU.out.trans h1), HO.out, HM.out, rfl, ((h1.at_ b2 (by omega)).1 0).trans HC2.out⟩
  case ownax =>
    rintro pre x a' N N' _ A A' ⟨h1, bx, h3, h4, h5, h6⟩ hk hn
    have zx := cell_lt h4.h0
    refine ⟨h1, bx, h3, h4.keep (hk.at_ bx zx h5).1, fun h => ?_, h6⟩
    rcases hn _ h with h | h
    · exact h5 h
    · have : bx < A.heap.size := zx; omega
  case assign =>
    rintro l N pre ⟨j, c⟩ W K hz ⟨hI, hN⟩ ⟨hj, hjm, hG⟩ hK
    have hc := hG g X (HS.out.up (HU.out.trans hI)) HO.out HM.out
    simp only at hj hjm hc
    subst hj
    have HI := Lib.hid hI
    have HZ := Lib.hid hz
    have HG := Lib.hid hc
    have hzz := hI.size
    clear hI hz hG hc
    obtain ⟨ch, at_, fa, hi_, co, se⟩ := c
    simp only [encPC, Cl.val]
    gi_wp2
    refine hK _ _ (Held.of_up (show Up W _ by (repeat (first | with_reducible exact Up.refl _ | with_reducible refine Up.alloc ?_ _ | with_reducible refine Up.drew ?_ | with_reducible refine Up.drewN ?_ _ | with_reducible refine Up.setCell ?_ (by (try simp) <;> omega) _ | with_reducible assumption | with_reducible refine Up.trans ?_ (by assumption)))) HZ.out) ⟨HI.out.alloc _, hN⟩ ⟨HG.out, W.heap.size, rfl, ⟨by simp [go_sem], by simp [go_sem], by simp [go_sem], by simp [go_sem], by simp [go_sem], by simp [go_sem]⟩, fun h => by have := HZ.out _ h; omega, hzz⟩
  case body =>
    rintro l N pre ⟨j, c⟩ a' W hl hr hz ⟨hI, hN⟩ ⟨hG, bx, rfl, hx, hbn, hbx⟩
    have hyc := HY.out j c hG
    have HSZ := Lib.hid (fun W' (hu : Up W W') => HZ1.out W' ((HS.out.up (HU.out.trans hI)).up hu))
    have HSZ' := Lib.hid (fun W' (hu : Up W W') => HZ2.out W' ((HS'.out.up (HU.out.trans hI)).up hu))
    have HAT := Lib.hid (fun W' (hu : Up W W') => HA.out W' j c ((HS'.out.up (HU.out.trans hI)).up hu) hyc)
    have k0 := ((hI.at_ w.heap.size (by omega)).1 0).trans HC.out.1
    have k1 := ((hI.at_ (w.heap.size + 1) (by omega)).1 0).trans HC.out.2.1
    have z0 := cell_lt k0
    have z1 := cell_lt k1
    have zx := cell_lt hx.h0
    simp only at z0 z1 zx
    obtain ⟨x0, x1, x2, x3, x4, x5⟩ := hx
    have es : ∀ W : World, (Op.equalIn 10000 38 (.agg #[.int .i64 X.r, .int .i64 X.c]) (.agg #[.int .i64 X.r, .int .i64 X.c])).run Try.prog W = .ok true W := fun W => by rw [eqSa]; simp
    have ea : ∀ W : World, (Op.equalIn 10000 25 (.agg #[.int .u8 c.ch, .bool c.at_, .int .u8 c.fa, .int .u8 c.hi, .int .u8 c.co, .int .u8 c.se]) (.agg #[.int .u8 c.ch, .bool c.at_, .int .u8 c.fa, .int .u8 c.hi, .int .u8 c.co, .int .u8 c.se])).run Try.prog W = .ok true W := fun W => eqC (c := c) (d := c) (by simp) W
    have HI := Lib.hid hI
    have HZ := Lib.hid hz
    have HN := Lib.hid hN
    clear hI hz hN hG hyc hbn hl hr
    obtain ⟨ch, at_, fa, hi_, co, se⟩ := c
    simp only [Cl.val] at *
    generalize X.r = r at *
    generalize X.c = cx at *
    gi_wp2
    refine wpIn_region_mixT 11 (NS := []) [] rfl (by kernel_rfl) (by kernel_rfl) (by simp) (by simp) ?_
    simp only [List.take_succ_cons, List.take_zero, List.drop_succ_cons, List.drop_zero]
    repeat (first
      | (refine mix_skip rfl rfl ?_; simp only [Act.put, List.setIfInBounds_toArray, List.set_cons_succ, List.set_cons_zero])
      | (refine mix_q rfl rfl rfl (by kernel_rfl) rfl rfl rfl ?_
         apply Exists.intro
         refine ⟨fun Wm => ?_, ?_⟩
         · simp only [fin]
           skip
           intro K hK
           go_wp2_with ((first | (go_at_call 25; first | ((with_reducible refine (HSZ.out _ (up_upOf _ _)).mono ?_); rintro e w' ⟨rfl, hux⟩) | ((with_reducible refine (HSZ'.out _ (up_upOf _ _)).mono ?_); rintro e w' ⟨rfl, hux⟩)) | (go_at_call 27; (with_reducible refine (HAT.out _ (up_upOf _ _)).mono ?_); rintro e w' ⟨rfl, hux⟩)))
           refine hK _ _ ?_ ?_ ?_
           · (repeat (first | with_reducible exact Up.refl _ | with_reducible refine Up.alloc ?_ _ | with_reducible refine Up.drew ?_ | with_reducible refine Up.drewN ?_ _ | with_reducible refine Up.setCell ?_ (by (try simp) <;> omega) _ | with_reducible assumption | with_reducible refine Up.trans ?_ (by assumption)))
           · rfl
           · exact tmps_at rfl
         simp only [Act.put, List.setIfInBounds_toArray, List.set_cons_succ, List.set_cons_zero]))
    refine mix_nil ?_
    intro w9 hb_w9
    simp only [fin]
    have HB9 := Lib.hid hb_w9
    clear hb_w9
    gi_wp2
    exact ⟨Held.of_up HB9.out HZ.out, HI.out.trans HB9.out, HN.out⟩
  case done =>
    rintro Dd N xs W hD hND hN0 hS ⟨hI, hN⟩ hK
    have h2 : W.cell? ⟨w.heap.size + 1 + 1, 0, none⟩ = some (.slice none 0 0) := ((hI.at_ _ (by omega)).1 0).trans HC.out.2.2
    have HI := Lib.hid hI
    have HK := Lib.hid hK
    have HN := Lib.hid (hN _ hND)
    have zo := cell_lt h2
    clear hI hK hN hND
    go_wp2
    refine ⟨by simp, .inl ⟨_, _, rfl, run_takeDeferred HK.out, ?_⟩⟩
    exact ⟨_, results_tmp rfl _ _ _, rfl, HU.out.trans (HI.out.keep (keep_put (N := fun k => k = Dd) _ rfl) (fun i hi => by subst hi; exact HN.out))⟩
end Go.Proofs.Ytjokcfenncogkaa
