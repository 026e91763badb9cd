/-
  sfield's Fields as an iterator: it hands over what items says, each text new. No condition but the slice's own reach.
-/
import Derived.Test.YtfknakcjhlonoaaFlds
import Derived.Test.YtfknakcjhlonoaaIter
import Derived.Test.YtfknakcjhlonoaaSAct4
import Derived.Stop.RegionWithIn
import Derived.RangeFuncSeq
import Derived.BigQuiet
namespace Go.Proofs.Ytfknakcjhlonoaa
open Go.RowKit
set_option linter.unusedVariables false
set_option linter.unusedSimpArgs false
attribute [local go_sem] Oper.semAt_some

/-- a field as it is handed over -/
structure EF where
  id : Int
  A : Option Addr
  c : Nat
  l : List Int
  e : Int
def EF.enc (x : EF) : Array Value := #[.agg #[.int .u8 x.id, .slice x.A x.l.length x.c], .int .i64 x.e]
def EF.pl (x : EF) : Int × List Int × Int := (x.id, x.l, x.e)
theorem Sl.stay {B : Nat} {w w' : World} {A : Option Addr} {n c : Nat} {l : List Int} (h : Sl B w A n c l) (hz : w.heap.size ≤ w'.heap.size) (hb : ∀ p, A = some p → w'.heap[p.block]? = w.heap[p.block]?) : Sl B w' A n c l :=
  ⟨⟨h.rd.1, fun hn => by
      obtain ⟨b, off, e, hb', hc⟩ := h.rd.2 hn
      exact ⟨b, off, e, Nat.lt_of_lt_of_le hb' hz, fun j u hu => (World.cell?_of_block (show w'.heap[b]? = w.heap[b]? from hb _ e)).trans (hc j u hu)⟩⟩, h.cap, h.mx, h.at_, h.small, h.bytes, fun p hp => by rw [hb p hp]; exact h.tag p hp⟩
def slLen (o : Option Value) : Nat := match o with | some (.slice _ n _) => n | _ => 0
/-- how the iterator stands: what came, what is left -/
def FState (w : World) (bp : Nat) (A : Option Addr) (l : List Int) (J : List EF → World → Prop) (wr : World) : Prop :=
  ∃ (pre : List EF) (l' : List Int) (n' : Nat) (A' : Option Addr) (c' : Nat), l'.length = n' ∧ items l = pre.map EF.pl ++ items l' ∧ wr.cell? ⟨bp, 0, none⟩ = some (.slice A' n' c') ∧ wr.frozen? ⟨bp, 0, none⟩ = false ∧
    Sl 0 wr A' n' c' l' ∧ (∀ p, A' = some p → ∃ q, A = some q ∧ q.block = p.block) ∧ J pre wr ∧ w.heap.size ≤ wr.heap.size
theorem bits_all : ∀ a b : Fin 256, bits BinOp.or IntKind.i64 ((a.val : Int) * 256) (b.val : Int) = ((256 * a.val + b.val : Nat) : Int) := by decide +kernel
theorem bits_two {x y : Int} (hx : 0 ≤ x ∧ x ≤ 255) (hy : 0 ≤ y ∧ y ≤ 255) : bits BinOp.or IntKind.i64 (x * 256) y = (((256 * x + y).toNat : Nat) : Int) := by
  obtain ⟨a, rfl⟩ := Int.eq_ofNat_of_zero_le hx.1
  obtain ⟨c, rfl⟩ := Int.eq_ofNat_of_zero_le hy.1
  have := bits_all ⟨a, by omega⟩ ⟨c, by omega⟩
  simp only at this
  rw [this]
  omega
theorem FState.next {w wr W' : World} {bp b m nn cc : Nat} {A A2 : Option Addr} {l l' : List Int} {q : Addr} {J : List EF → World → Prop} {pre : List EF} {x : EF} {u v : Value} (hv : v = .slice A2 nn cc) (hs : Sl 0 wr A2 nn cc (l'.drop m)) (hab : ∀ p, A2 = some p → p.block = b) (hq : A = some q) (hqb : q.block = b) (hbne : b ≠ bp) (kk : W'.heap[b]? = wr.heap[b]?)
    (hI : items l = pre.map EF.pl ++ x.pl :: items (l'.drop m)) (hc : W'.cell? ⟨bp, 0, none⟩ = some u) (hf : W'.frozen? ⟨bp, 0, none⟩ = false) (hJ : Still (Keep (fun k => k = bp)) J) (hJ' : J (pre ++ [x]) W') (hz : w.heap.size ≤ wr.heap.size) (hz' : wr.heap.size ≤ W'.heap.size) :
    FState w bp A l J (W'.setCell ⟨bp, 0, none⟩ v) := by
  subst hv
  have hzz : (W'.setCell ⟨bp, 0, none⟩ (.slice A2 nn cc)).heap.size = W'.heap.size := by simp [World.setCell]
  refine ⟨pre ++ [x], l'.drop m, nn, A2, cc, hs.len, by rw [hI, List.map_append]; simp, World.cell?_setCell_same (h := hc) .., by rw [World.frozen?_setCell]; exact hf, hs.stay (by omega) (fun p hp => ?_), fun p hp => ⟨q, hq, by rw [hqb, hab p hp]⟩, hJ _ _ _ hJ' (Keep.setCell (E := fun k => k = bp) (Keep.refl _ W') (p := ⟨bp, 0, none⟩) (.inl rfl) _), by omega⟩
  rw [hab p hp]
  exact (Below.heap_setCell W' ⟨bp, 0, none⟩ _ b hbne).trans kk
set_option maxRecDepth 100000 in
set_option maxHeartbeats 12800000 in
theorem fields_it {B bp : Nat} {A : Option Addr} {n c : Nat} {l : List Int} {w : World} (h : Sl B w A n c l) (hp : w.cell? ⟨bp, 0, none⟩ = some (.slice A n c)) (hf : w.frozen? ⟨bp, 0, none⟩ = false) (hne : ∀ p, A = some p → p.block ≠ bp) (hlt : ∀ p, A = some p → p.block < w.heap.size) :
    ItFor Try.prog 40 #[.pointer (some ⟨bp, 0, none⟩)] EF.enc (fun k => k = bp) (fun k => k = bp ∨ ∃ p, A = some p ∧ p.block = k) (fun pre x W => Sl w.heap.size W x.A x.l.length x.c x.l ∧ (pre ++ [x]).map EF.pl <+: items l) (fun xs => xs.map EF.pl = items l) (fun pre => pre.map EF.pl <+: items l) w := by
  intro n0 w1 E hu1 hDE lb J Jx W hu2 hJ hJx hY h0
  have hbp := cell_lt hp
  have huW := hu1.trans hu2
  have hs : FState w bp A l J W := ⟨[], l, n, A, c, h.len, rfl, ((huW.at_ bp hbp).1 0).trans hp, ((huW.at_ bp hbp).2 0).trans hf, (h.up huW).low (Nat.zero_le _), fun p hp => ⟨p, hp, rfl⟩, h0, huW.size⟩
  refine callsIn_of_wp Try.func40 rfl trivial ?_ rfl
  simp only [Try.ntmps40, List.size_toArray, List.length_cons, List.length_nil, Nat.reduceAdd, Nat.reduceSub, Array.replicate_succ, Array.replicate_zero, List.push_toArray, List.append_toArray, List.nil_append, List.cons_append]
  have HS := Lib.hid hs
  have HY := Lib.hid hY
  have HJ := Lib.hid hJ
  have HJx := Lib.hid hJx
  have HDE := Lib.hid hDE
  have HU1 := Lib.hid hu1
  have HU2 := Lib.hid hu2
  have HLT := Lib.hid hlt
  have HNE := Lib.hid hne
  clear hs hY hJ hJx h0 hDE hu1 hu2 huW hlt hne h hp hf
  gi_wp2
  gi_loopw [3] (fun q wr => FState w bp A l J wr) (fun q wr => slLen (wr.cell? ⟨bp, 0, none⟩))
  case atStart => exact HS.out
  case round =>
    obtain ⟨pre, l', n', A', c', hl', hit, hcell, hfz, hsl, hbl, hJs, hzz⟩ := hrel
    have HL := Lib.hid hl'
    have HI := Lib.hid hit
    have HSL := Lib.hid hsl
    have HBL := Lib.hid hbl
    have HJS := Lib.hid hJs
    clear hl' hit hsl hbl hJs
    have hbw : bp < wr.heap.size := by omega
    by_cases hn0 : n' = 0
    · subst hn0
      gi_wp2
      go_end0
      exact ⟨⟨_, rfl⟩, .inl ⟨pre, by rw [HI.out, items_nil HL.out, List.append_nil], HJS.out⟩⟩
    · have h0' : (0 : Int) < n' := by omega
      by_cases hn3 : n' < 3
      · have hbad := items_bad (l := l') (by rw [HL.out]; exact hn0) (.inl (by unfold fldN; rw [HL.out, if_neg (by omega)]; exact hn3))
        have HX := Lib.hid (show (pre ++ [(⟨0, none, 0, [], 2⟩ : EF)]).map EF.pl = items l by rw [HI.out, hbad, List.map_append]; rfl)
        obtain ⟨fn, tmps, assign, body, hy, hR⟩ := HY.out pre ⟨0, none, 0, [], 2⟩ wr HJS.out ⟨Sl.none_, by rw [HX.out]; exact List.prefix_refl _⟩
        simp only [EF.enc, List.length_nil] at hy
        clear hbad
        gi_wp2
        refine ⟨fun h => by simp [Fence.wide] at h, ?_⟩
        refine hR.mono ?_
        rintro e W' (⟨rfl, hJ', hk⟩ | ⟨rfl, hJ'⟩)
        all_goals
          have HJ' := Lib.hid hJ'
          clear hJ'
          gi_wp2
          refine bodyPost_ret (results_none rfl _ _ _) rfl ?_
        · exact ⟨⟨_, rfl⟩, .inl ⟨_, HX.out, HJ'.out⟩⟩
        · exact ⟨⟨_, rfl⟩, .inr ⟨_, by rw [HX.out]; exact List.prefix_refl _, HJ'.out⟩⟩
      · have h3' : (3 : Int) ≤ n' := by omega
        have h2' : (2 : Int) < n' := by omega
        have h1' : (1 : Int) < n' := by omega
        obtain ⟨b, off, hA', hb⟩ := HSL.out.form (by omega)
        subst hA'
        have hc0 := HSL.out.cell (i := 0) (by omega)
        have hc1 := HSL.out.cell (i := 1) (by omega)
        have hc2 := HSL.out.cell (i := 2) (by omega)
        have hy0 := HSL.out.byte (i := 0)
        have hy1 := HSL.out.byte (i := 1)
        rw [Nat.add_zero] at hc0
        obtain ⟨x0, e0⟩ : ∃ x, l'.getD 0 0 = x := ⟨_, rfl⟩
        obtain ⟨x1, e1⟩ : ∃ x, l'.getD 1 0 = x := ⟨_, rfl⟩
        obtain ⟨x2, e2⟩ : ∃ x, l'.getD 2 0 = x := ⟨_, rfl⟩
        rw [e0] at hc0 hy0
        rw [e1] at hc1 hy1
        rw [e2] at hc2
        have E0 := Lib.hid e0
        have E1 := Lib.hid e1
        have E2 := Lib.hid e2
        clear e0 e1 e2
        have hbr := hb
        have HC0 := Lib.hid hcell
        have hbx : ∃ q, A = some q ∧ q.block = b := HBL.out _ rfl
        obtain ⟨q, hqA, hqb⟩ := hbx
        have hbne : b ≠ bp := fun e => HNE.out q hqA (hqb.trans e)
        have hblt : b < w.heap.size := by have := HLT.out q hqA; omega
        have hbE : ¬ E b := HDE.out b (.inr ⟨q, hqA, hqb⟩)
        have hpE : ¬ E bp := HDE.out bp (.inl rfl)
        have hww : w.heap.size ≤ w1.heap.size := HU1.out.size
        by_cases hz : x0 = 0 ∧ x1 = 0
        · obtain ⟨rfl, rfl⟩ := hz
          have HM := Lib.hid (show fldN l' = n' by unfold fldN; rw [E0.out, E1.out, if_neg (by omega), HL.out])
          have UQ := Lib.hid (Up.refl wr)
          · have hbad : ¬ (n' < 3 ∨ n' < n') := by omega
            have hm3 : ¬ n' < 3 := by omega
            have hmn : ¬ n' < n' := by omega
            have hm3' : (3 : Int) ≤ (n' : Nat) := by omega
            have hmn' : ((n' : Nat) : Int) ≤ n' := by omega
            have hcap := HSL.out.cap
            have hgood := items_cons (l := l') (by rw [HL.out]; exact hn0) (by rw [HM.out]; omega) (by rw [HM.out, HL.out]; omega)
            rw [HM.out, E2.out] at hgood
            have HLEN := Lib.hid (show ((l'.take n').drop 3).length = n' - 3 by rw [List.length_drop, List.length_take, HL.out]; omega)
            have hct := ((HSL.out.up UQ.out).take (k := n') (by omega)).cut (k := 3) (by omega)
            have hcr : Sl 0 wr (if c' = n' then (some ⟨b, off, none⟩ : Option Addr) else some ⟨b, off + n', none⟩) (n' - n') (c' - n') (l'.drop n') := by
              have hq := HSL.out.cut (k := n') (by omega)
              rw [Option.map_some, show Addr.add ⟨b, off, none⟩ n' = ⟨b, off + n', none⟩ by (simp only [Addr.add]; rw [if_neg (by omega)])] at hq
              exact hq
            rw [Option.map_some] at hct
            simp only [Addr.add] at hct
            have HCT := Lib.hid hct
            have HCR := Lib.hid hcr
            have HAB := Lib.hid (show ∀ p : Addr, (if c' = n' then (some ⟨b, off, none⟩ : Option Addr) else some ⟨b, off + n', none⟩) = some p → p.block = b from fun p hp => by split at hp <;> (injection hp with hp; rw [← hp]))
            have HGD := Lib.hid hgood
            have hmcap : n' ≤ c' := by omega
            clear hct hcr hgood hbad
            by_cases hc3 : c' = 3
            · subst hc3; obtain rfl : n' = 3 := (by omega); rw [if_pos rfl] at HCT HCR; simp only [Nat.sub_self] at HCT HLEN HCR; rw [if_pos rfl] at HAB
              gi_wp2
              gi_region_with (first | (refine ⟨trivial, (fun h => by simp [Fence.wide] at h), ?_⟩; gi_at_call 41; refine (callsIn_wide.2 (clone_sl (HCT.out.up (by (repeat (first | with_reducible exact Up.refl _ | with_reducible refine Up.alloc ?_ _ | with_reducible refine Up.drew ?_ | with_reducible refine Up.drewN ?_ _ | with_reducible refine Up.setCell ?_ (by (try simp) <;> omega) _ | with_reducible assumption | with_reducible refine Up.trans ?_ (by assumption))))))).mono ?_; rintro e w2 ⟨A2, c2, rfl, hs2, hu2⟩; have U2 := Lib.hid (show Up wr w2 by (repeat (first | with_reducible exact Up.refl _ | with_reducible refine Up.alloc ?_ _ | with_reducible refine Up.drew ?_ | with_reducible refine Up.drewN ?_ _ | with_reducible refine Up.setCell ?_ (by (try simp) <;> omega) _ | with_reducible assumption | with_reducible refine Up.trans ?_ (by assumption)))); obtain ⟨ca, cf⟩ := U2.out.at_ bp hbw; obtain ⟨cb, cg⟩ := U2.out.at_ b hb; have hz2 := U2.out.size; have s0 : bp < w2.heap.size := (by omega); have s1 : b < w2.heap.size := (by omega); have HS2 := Lib.hid (hs2.low (B' := w.heap.size) (by (try simp); omega)); clear hs2; have HG2 := Lib.hid (show (pre ++ [(⟨x2, A2, c2, (l'.take 3).drop 3, 0⟩ : EF)]).map EF.pl <+: items l from ⟨items (l'.drop 3), by rw [HI.out, HGD.out, List.map_append]; simp [EF.pl]⟩); obtain ⟨fn, tmps, assign, body, hy, hR⟩ := HY.out pre ⟨x2, A2, c2, (l'.take 3).drop 3, 0⟩ w2 (HJ.out _ _ _ HJS.out (Keep.of_up (UQ.out.trans U2.out))) ⟨(by have := HS2.out; rw [← HLEN.out] at this; exact this), HG2.out⟩; simp only [EF.enc] at hy; rw [HLEN.out] at hy; have HRR := Lib.hid hR; clear hR) | (refine ⟨fun h => by simp [Fence.wide] at h, ?_⟩; refine HRR.out.mono ?_; rintro e W' hpost; obtain ⟨bb, rfl, hpo2⟩ : ∃ bb, e = .returned (.bool bb) ∧ ((bb = true ∧ J (pre ++ [⟨x2, A2, c2, (l'.take 3).drop 3, 0⟩]) W' ∧ KpR w1.heap.size W.heap.size E w2 W') ∨ (bb = false ∧ Jx (pre ++ [⟨x2, A2, c2, (l'.take 3).drop 3, 0⟩]) W')) := (by rcases hpost with ⟨h1, h2, h3⟩ | ⟨h1, h2⟩; exact ⟨true, h1, .inl ⟨rfl, h2, h3⟩⟩; exact ⟨false, h1, .inr ⟨rfl, h2⟩⟩); have HPO := Lib.hid hpo2; clear hpo2 hpost HRR hy))
              all_goals
                have hpo := HPO.out
                clear HPO
                rcases hpo with ⟨rfl, hJ', hk⟩ | ⟨rfl, hJ'⟩
                · have k0 : W'.heap[bp]? = w2.heap[bp]? := hk.low bp (by omega) hpE
                  have kb : W'.heap[b]? = w2.heap[b]? := hk.low b (by omega) hbE
                  have v0 := (World.cell?_of_block (a := ⟨bp, 0, none⟩) k0).trans ((ca 0).trans hcell)
                  have v1 := (World.frozen?_of_block (a := ⟨bp, 0, none⟩) k0).trans ((cf 0).trans hfz)
                  have kk := Lib.hid (kb.trans ((UQ.out.trans U2.out).block b hbr))
                  have hz3 := hk.size
                  have hz4 := (UQ.out.trans U2.out).size
                  have s3 : bp < W'.heap.size := by omega
                  have HJ' := Lib.hid hJ'
                  clear hJ' hk k0 kb
                  gi_wp2
                  go_roundw
                  case rel =>
                    exact FState.next (x := ⟨x2, A2, c2, (l'.take 3).drop 3, 0⟩) (by first | rfl | simp) HCR.out HAB.out hqA hqb hbne kk.out (HI.out.trans (congrArg (pre.map EF.pl ++ ·) HGD.out)) v0 v1 HJ.out HJ'.out (by omega) (by omega)
                  case measure =>
                    rw [World.cell?_setCell_same (h := v0) .., HC0.out]
                    simp only [slLen]
                    omega
                · have HJ' := Lib.hid hJ'
                  clear hJ'
                  gi_wp2
                  refine bodyPost_ret (results_none rfl _ _ _) rfl ?_
                  exact ⟨⟨_, rfl⟩, .inr ⟨_, HG2.out, HJ'.out⟩⟩
            · rw [if_neg hc3] at HCT
              gi_wp2
              gi_region_with (first | (refine ⟨trivial, (fun h => by simp [Fence.wide] at h), ?_⟩; gi_at_call 41; refine (callsIn_wide.2 (clone_sl (HCT.out.up (by (repeat (first | with_reducible exact Up.refl _ | with_reducible refine Up.alloc ?_ _ | with_reducible refine Up.drew ?_ | with_reducible refine Up.drewN ?_ _ | with_reducible refine Up.setCell ?_ (by (try simp) <;> omega) _ | with_reducible assumption | with_reducible refine Up.trans ?_ (by assumption))))))).mono ?_; rintro e w2 ⟨A2, c2, rfl, hs2, hu2⟩; have U2 := Lib.hid (show Up wr w2 by (repeat (first | with_reducible exact Up.refl _ | with_reducible refine Up.alloc ?_ _ | with_reducible refine Up.drew ?_ | with_reducible refine Up.drewN ?_ _ | with_reducible refine Up.setCell ?_ (by (try simp) <;> omega) _ | with_reducible assumption | with_reducible refine Up.trans ?_ (by assumption)))); obtain ⟨ca, cf⟩ := U2.out.at_ bp hbw; obtain ⟨cb, cg⟩ := U2.out.at_ b hb; have hz2 := U2.out.size; have s0 : bp < w2.heap.size := (by omega); have s1 : b < w2.heap.size := (by omega); have HS2 := Lib.hid (hs2.low (B' := w.heap.size) (by (try simp); omega)); clear hs2; have HG2 := Lib.hid (show (pre ++ [(⟨x2, A2, c2, (l'.take n').drop 3, 0⟩ : EF)]).map EF.pl <+: items l from ⟨items (l'.drop n'), by rw [HI.out, HGD.out, List.map_append]; simp [EF.pl]⟩); obtain ⟨fn, tmps, assign, body, hy, hR⟩ := HY.out pre ⟨x2, A2, c2, (l'.take n').drop 3, 0⟩ w2 (HJ.out _ _ _ HJS.out (Keep.of_up (UQ.out.trans U2.out))) ⟨(by have := HS2.out; rw [← HLEN.out] at this; exact this), HG2.out⟩; simp only [EF.enc] at hy; rw [HLEN.out] at hy; have HRR := Lib.hid hR; clear hR) | (refine ⟨fun h => by simp [Fence.wide] at h, ?_⟩; refine HRR.out.mono ?_; rintro e W' hpost; obtain ⟨bb, rfl, hpo2⟩ : ∃ bb, e = .returned (.bool bb) ∧ ((bb = true ∧ J (pre ++ [⟨x2, A2, c2, (l'.take n').drop 3, 0⟩]) W' ∧ KpR w1.heap.size W.heap.size E w2 W') ∨ (bb = false ∧ Jx (pre ++ [⟨x2, A2, c2, (l'.take n').drop 3, 0⟩]) W')) := (by rcases hpost with ⟨h1, h2, h3⟩ | ⟨h1, h2⟩; exact ⟨true, h1, .inl ⟨rfl, h2, h3⟩⟩; exact ⟨false, h1, .inr ⟨rfl, h2⟩⟩); have HPO := Lib.hid hpo2; clear hpo2 hpost HRR hy))
              all_goals
                have hpo := HPO.out
                clear HPO
                rcases hpo with ⟨rfl, hJ', hk⟩ | ⟨rfl, hJ'⟩
                · have k0 : W'.heap[bp]? = w2.heap[bp]? := hk.low bp (by omega) hpE
                  have kb : W'.heap[b]? = w2.heap[b]? := hk.low b (by omega) hbE
                  have v0 := (World.cell?_of_block (a := ⟨bp, 0, none⟩) k0).trans ((ca 0).trans hcell)
                  have v1 := (World.frozen?_of_block (a := ⟨bp, 0, none⟩) k0).trans ((cf 0).trans hfz)
                  have kk := Lib.hid (kb.trans ((UQ.out.trans U2.out).block b hbr))
                  have hz3 := hk.size
                  have hz4 := (UQ.out.trans U2.out).size
                  have s3 : bp < W'.heap.size := by omega
                  have HJ' := Lib.hid hJ'
                  clear hJ' hk k0 kb
                  gi_wp2
                  go_roundw
                  case rel =>
                    exact FState.next (x := ⟨x2, A2, c2, (l'.take n').drop 3, 0⟩) (by first | rfl | simp) HCR.out HAB.out hqA hqb hbne kk.out (HI.out.trans (congrArg (pre.map EF.pl ++ ·) HGD.out)) v0 v1 HJ.out HJ'.out (by omega) (by omega)
                  case measure =>
                    rw [World.cell?_setCell_same (h := v0) .., HC0.out]
                    simp only [slLen]
                    omega
                · have HJ' := Lib.hid hJ'
                  clear hJ'
                  gi_wp2
                  refine bodyPost_ret (results_none rfl _ _ _) rfl ?_
                  exact ⟨⟨_, rfl⟩, .inr ⟨_, HG2.out, HJ'.out⟩⟩
        · obtain ⟨m, hm⟩ : ∃ m, (256 * x0 + x1).toNat = m := ⟨_, rfl⟩
          have hbits := bits_two hy0 hy1
          rw [hm] at hbits
          have HM := Lib.hid (show fldN l' = m by unfold fldN; rw [E0.out, E1.out, if_pos ⟨by rw [HL.out]; omega, by omega⟩]; exact hm)
          have HBT := Lib.hid hbits
          have hzz : ((x0 != 0) = true ∧ 256 ≤ m) ∨ ((x0 != 0) = false ∧ (x1 != 0) = true) := by
            by_cases h0 : x0 = 0
            · exact .inr ⟨by simpa using h0, by simp; omega⟩
            · exact .inl ⟨by simpa using h0, by omega⟩
          clear hm hbits hz
          rcases hzz with ⟨hz0, hbig⟩ | ⟨hz0, hz1⟩
          · skip
            gi_wp2
            refine wpIn_wide.2 ?_
            go_quiet (fail)
            rw [HBT.out]
            clear hy0 hy1
            obtain ⟨wq, hwq⟩ : ∃ wq, wr.drewN nq = wq := ⟨_, rfl⟩
            have UQ := Lib.hid (show Up wr wq by rw [← hwq]; exact (Up.refl wr).drewN nq)
            rw [hwq]
            clear hwq
            have hzq := UQ.out.size
            replace hcell := ((UQ.out.at_ bp hbw).1 0).trans hcell
            replace hfz := ((UQ.out.at_ bp hbw).2 0).trans hfz
            replace hc0 := ((UQ.out.at_ b hb).1 _).trans hc0
            replace hc1 := ((UQ.out.at_ b hb).1 _).trans hc1
            replace hc2 := ((UQ.out.at_ b hb).1 _).trans hc2
            replace hbw : bp < wq.heap.size := by omega
            replace hb : b < wq.heap.size := by omega
            by_cases hbad : m < 3 ∨ n' < m
            · have hb0 := items_bad (l := l') (by rw [HL.out]; exact hn0) (by rw [HM.out, HL.out]; exact hbad)
              have HX := Lib.hid (show (pre ++ [(⟨0, none, 0, [], 2⟩ : EF)]).map EF.pl = items l by rw [HI.out, hb0, List.map_append]; rfl)
              obtain ⟨fn, tmps, assign, body, hy, hR⟩ := HY.out pre ⟨0, none, 0, [], 2⟩ wq (HJ.out _ _ _ HJS.out (Keep.of_up UQ.out)) ⟨Sl.none_, by rw [HX.out]; exact List.prefix_refl _⟩
              simp only [EF.enc, List.length_nil] at hy
              obtain ⟨hb1, hb2⟩ : ¬ m < 3 ∧ n' < m := by omega
              clear hb0 hbad
              all_goals
                gi_wp2
                refine ⟨fun h => by simp [Fence.wide] at h, ?_⟩
                refine hR.mono ?_
                rintro e W' (⟨rfl, hJ', hk⟩ | ⟨rfl, hJ'⟩)
                all_goals
                  have HJ' := Lib.hid hJ'
                  clear hJ'
                  gi_wp2
                  refine bodyPost_ret (results_none rfl _ _ _) rfl ?_
                · exact ⟨⟨_, rfl⟩, .inl ⟨_, HX.out, HJ'.out⟩⟩
                · exact ⟨⟨_, rfl⟩, .inr ⟨_, by rw [HX.out]; exact List.prefix_refl _, HJ'.out⟩⟩
            · have hm3 : ¬ m < 3 := by omega
              have hmn : ¬ n' < m := by omega
              have hm3' : (3 : Int) ≤ (m : Nat) := by omega
              have hmn' : ((m : Nat) : Int) ≤ n' := by omega
              have hcap := HSL.out.cap
              have hgood := items_cons (l := l') (by rw [HL.out]; exact hn0) (by rw [HM.out]; omega) (by rw [HM.out, HL.out]; omega)
              rw [HM.out, E2.out] at hgood
              have HLEN := Lib.hid (show ((l'.take m).drop 3).length = m - 3 by rw [List.length_drop, List.length_take, HL.out]; omega)
              have hct := ((HSL.out.up UQ.out).take (k := m) (by omega)).cut (k := 3) (by omega)
              have hcr : Sl 0 wr (if c' = m then (some ⟨b, off, none⟩ : Option Addr) else some ⟨b, off + m, none⟩) (n' - m) (c' - m) (l'.drop m) := by
                have hq := HSL.out.cut (k := m) (by omega)
                rw [Option.map_some, show Addr.add ⟨b, off, none⟩ m = ⟨b, off + m, none⟩ by (simp only [Addr.add]; rw [if_neg (by omega)])] at hq
                exact hq
              rw [Option.map_some] at hct
              simp only [Addr.add] at hct
              have HCT := Lib.hid hct
              have HCR := Lib.hid hcr
              have HAB := Lib.hid (show ∀ p : Addr, (if c' = m then (some ⟨b, off, none⟩ : Option Addr) else some ⟨b, off + m, none⟩) = some p → p.block = b from fun p hp => by split at hp <;> (injection hp with hp; rw [← hp]))
              have HGD := Lib.hid hgood
              have hmcap : m ≤ c' := by omega
              clear hct hcr hgood hbad
              have hc3 : ¬ c' = 3 := by omega
              · rw [if_neg hc3] at HCT
                gi_wp2
                gi_region_with (first | (refine ⟨trivial, (fun h => by simp [Fence.wide] at h), ?_⟩; gi_at_call 41; refine (callsIn_wide.2 (clone_sl (HCT.out.up (by (repeat (first | with_reducible exact Up.refl _ | with_reducible refine Up.alloc ?_ _ | with_reducible refine Up.drew ?_ | with_reducible refine Up.drewN ?_ _ | with_reducible refine Up.setCell ?_ (by (try simp) <;> omega) _ | with_reducible assumption | with_reducible refine Up.trans ?_ (by assumption))))))).mono ?_; rintro e w2 ⟨A2, c2, rfl, hs2, hu2⟩; have U2 := Lib.hid (show Up wq w2 by (repeat (first | with_reducible exact Up.refl _ | with_reducible refine Up.alloc ?_ _ | with_reducible refine Up.drew ?_ | with_reducible refine Up.drewN ?_ _ | with_reducible refine Up.setCell ?_ (by (try simp) <;> omega) _ | with_reducible assumption | with_reducible refine Up.trans ?_ (by assumption)))); obtain ⟨ca, cf⟩ := U2.out.at_ bp hbw; obtain ⟨cb, cg⟩ := U2.out.at_ b hb; have hz2 := U2.out.size; have s0 : bp < w2.heap.size := (by omega); have s1 : b < w2.heap.size := (by omega); have HS2 := Lib.hid (hs2.low (B' := w.heap.size) (by (try simp); omega)); clear hs2; have HG2 := Lib.hid (show (pre ++ [(⟨x2, A2, c2, (l'.take m).drop 3, 0⟩ : EF)]).map EF.pl <+: items l from ⟨items (l'.drop m), by rw [HI.out, HGD.out, List.map_append]; simp [EF.pl]⟩); obtain ⟨fn, tmps, assign, body, hy, hR⟩ := HY.out pre ⟨x2, A2, c2, (l'.take m).drop 3, 0⟩ w2 (HJ.out _ _ _ HJS.out (Keep.of_up (UQ.out.trans U2.out))) ⟨(by have := HS2.out; rw [← HLEN.out] at this; exact this), HG2.out⟩; simp only [EF.enc] at hy; rw [HLEN.out] at hy; have HRR := Lib.hid hR; clear hR) | (refine ⟨fun h => by simp [Fence.wide] at h, ?_⟩; refine HRR.out.mono ?_; rintro e W' hpost; obtain ⟨bb, rfl, hpo2⟩ : ∃ bb, e = .returned (.bool bb) ∧ ((bb = true ∧ J (pre ++ [⟨x2, A2, c2, (l'.take m).drop 3, 0⟩]) W' ∧ KpR w1.heap.size W.heap.size E w2 W') ∨ (bb = false ∧ Jx (pre ++ [⟨x2, A2, c2, (l'.take m).drop 3, 0⟩]) W')) := (by rcases hpost with ⟨h1, h2, h3⟩ | ⟨h1, h2⟩; exact ⟨true, h1, .inl ⟨rfl, h2, h3⟩⟩; exact ⟨false, h1, .inr ⟨rfl, h2⟩⟩); have HPO := Lib.hid hpo2; clear hpo2 hpost HRR hy))
                all_goals
                  have hpo := HPO.out
                  clear HPO
                  rcases hpo with ⟨rfl, hJ', hk⟩ | ⟨rfl, hJ'⟩
                  · have k0 : W'.heap[bp]? = w2.heap[bp]? := hk.low bp (by omega) hpE
                    have kb : W'.heap[b]? = w2.heap[b]? := hk.low b (by omega) hbE
                    have v0 := (World.cell?_of_block (a := ⟨bp, 0, none⟩) k0).trans ((ca 0).trans hcell)
                    have v1 := (World.frozen?_of_block (a := ⟨bp, 0, none⟩) k0).trans ((cf 0).trans hfz)
                    have kk := Lib.hid (kb.trans ((UQ.out.trans U2.out).block b hbr))
                    have hz3 := hk.size
                    have hz4 := (UQ.out.trans U2.out).size
                    have s3 : bp < W'.heap.size := by omega
                    have HJ' := Lib.hid hJ'
                    clear hJ' hk k0 kb
                    gi_wp2
                    go_roundw
                    case rel =>
                      exact FState.next (x := ⟨x2, A2, c2, (l'.take m).drop 3, 0⟩) (by first | rfl | simp) HCR.out HAB.out hqA hqb hbne kk.out (HI.out.trans (congrArg (pre.map EF.pl ++ ·) HGD.out)) v0 v1 HJ.out HJ'.out (by omega) (by omega)
                    case measure =>
                      rw [World.cell?_setCell_same (h := v0) .., HC0.out]
                      simp only [slLen]
                      omega
                  · have HJ' := Lib.hid hJ'
                    clear hJ'
                    gi_wp2
                    refine bodyPost_ret (results_none rfl _ _ _) rfl ?_
                    exact ⟨⟨_, rfl⟩, .inr ⟨_, HG2.out, HJ'.out⟩⟩
          · skip
            gi_wp2
            refine wpIn_wide.2 ?_
            go_quiet (fail)
            rw [HBT.out]
            clear hy0 hy1
            obtain ⟨wq, hwq⟩ : ∃ wq, wr.drewN nq = wq := ⟨_, rfl⟩
            have UQ := Lib.hid (show Up wr wq by rw [← hwq]; exact (Up.refl wr).drewN nq)
            rw [hwq]
            clear hwq
            have hzq := UQ.out.size
            replace hcell := ((UQ.out.at_ bp hbw).1 0).trans hcell
            replace hfz := ((UQ.out.at_ bp hbw).2 0).trans hfz
            replace hc0 := ((UQ.out.at_ b hb).1 _).trans hc0
            replace hc1 := ((UQ.out.at_ b hb).1 _).trans hc1
            replace hc2 := ((UQ.out.at_ b hb).1 _).trans hc2
            replace hbw : bp < wq.heap.size := by omega
            replace hb : b < wq.heap.size := by omega
            by_cases hbad : m < 3 ∨ n' < m
            · have hb0 := items_bad (l := l') (by rw [HL.out]; exact hn0) (by rw [HM.out, HL.out]; exact hbad)
              have HX := Lib.hid (show (pre ++ [(⟨0, none, 0, [], 2⟩ : EF)]).map EF.pl = items l by rw [HI.out, hb0, List.map_append]; rfl)
              obtain ⟨fn, tmps, assign, body, hy, hR⟩ := HY.out pre ⟨0, none, 0, [], 2⟩ wq (HJ.out _ _ _ HJS.out (Keep.of_up UQ.out)) ⟨Sl.none_, by rw [HX.out]; exact List.prefix_refl _⟩
              simp only [EF.enc, List.length_nil] at hy
              have hbad' : (m < 3) ∨ (¬ m < 3 ∧ n' < m) := by omega
              clear hb0 hbad
              rcases hbad' with hb1 | ⟨hb1, hb2⟩
              all_goals
                gi_wp2
                refine ⟨fun h => by simp [Fence.wide] at h, ?_⟩
                refine hR.mono ?_
                rintro e W' (⟨rfl, hJ', hk⟩ | ⟨rfl, hJ'⟩)
                all_goals
                  have HJ' := Lib.hid hJ'
                  clear hJ'
                  gi_wp2
                  refine bodyPost_ret (results_none rfl _ _ _) rfl ?_
                · exact ⟨⟨_, rfl⟩, .inl ⟨_, HX.out, HJ'.out⟩⟩
                · exact ⟨⟨_, rfl⟩, .inr ⟨_, by rw [HX.out]; exact List.prefix_refl _, HJ'.out⟩⟩
            · have hm3 : ¬ m < 3 := by omega
              have hmn : ¬ n' < m := by omega
              have hm3' : (3 : Int) ≤ (m : Nat) := by omega
              have hmn' : ((m : Nat) : Int) ≤ n' := by omega
              have hcap := HSL.out.cap
              have hgood := items_cons (l := l') (by rw [HL.out]; exact hn0) (by rw [HM.out]; omega) (by rw [HM.out, HL.out]; omega)
              rw [HM.out, E2.out] at hgood
              have HLEN := Lib.hid (show ((l'.take m).drop 3).length = m - 3 by rw [List.length_drop, List.length_take, HL.out]; omega)
              have hct := ((HSL.out.up UQ.out).take (k := m) (by omega)).cut (k := 3) (by omega)
              have hcr : Sl 0 wr (if c' = m then (some ⟨b, off, none⟩ : Option Addr) else some ⟨b, off + m, none⟩) (n' - m) (c' - m) (l'.drop m) := by
                have hq := HSL.out.cut (k := m) (by omega)
                rw [Option.map_some, show Addr.add ⟨b, off, none⟩ m = ⟨b, off + m, none⟩ by (simp only [Addr.add]; rw [if_neg (by omega)])] at hq
                exact hq
              rw [Option.map_some] at hct
              simp only [Addr.add] at hct
              have HCT := Lib.hid hct
              have HCR := Lib.hid hcr
              have HAB := Lib.hid (show ∀ p : Addr, (if c' = m then (some ⟨b, off, none⟩ : Option Addr) else some ⟨b, off + m, none⟩) = some p → p.block = b from fun p hp => by split at hp <;> (injection hp with hp; rw [← hp]))
              have HGD := Lib.hid hgood
              have hmcap : m ≤ c' := by omega
              clear hct hcr hgood hbad
              by_cases hc3 : c' = 3
              · subst hc3; obtain rfl : n' = 3 := (by omega); obtain rfl : m = 3 := (by omega); rw [if_pos rfl] at HCT HCR; simp only [Nat.sub_self] at HCT HLEN HCR; rw [if_pos rfl] at HAB
                gi_wp2
                gi_region_with (first | (refine ⟨trivial, (fun h => by simp [Fence.wide] at h), ?_⟩; gi_at_call 41; refine (callsIn_wide.2 (clone_sl (HCT.out.up (by (repeat (first | with_reducible exact Up.refl _ | with_reducible refine Up.alloc ?_ _ | with_reducible refine Up.drew ?_ | with_reducible refine Up.drewN ?_ _ | with_reducible refine Up.setCell ?_ (by (try simp) <;> omega) _ | with_reducible assumption | with_reducible refine Up.trans ?_ (by assumption))))))).mono ?_; rintro e w2 ⟨A2, c2, rfl, hs2, hu2⟩; have U2 := Lib.hid (show Up wq w2 by (repeat (first | with_reducible exact Up.refl _ | with_reducible refine Up.alloc ?_ _ | with_reducible refine Up.drew ?_ | with_reducible refine Up.drewN ?_ _ | with_reducible refine Up.setCell ?_ (by (try simp) <;> omega) _ | with_reducible assumption | with_reducible refine Up.trans ?_ (by assumption)))); obtain ⟨ca, cf⟩ := U2.out.at_ bp hbw; obtain ⟨cb, cg⟩ := U2.out.at_ b hb; have hz2 := U2.out.size; have s0 : bp < w2.heap.size := (by omega); have s1 : b < w2.heap.size := (by omega); have HS2 := Lib.hid (hs2.low (B' := w.heap.size) (by (try simp); omega)); clear hs2; have HG2 := Lib.hid (show (pre ++ [(⟨x2, A2, c2, (l'.take 3).drop 3, 0⟩ : EF)]).map EF.pl <+: items l from ⟨items (l'.drop 3), by rw [HI.out, HGD.out, List.map_append]; simp [EF.pl]⟩); obtain ⟨fn, tmps, assign, body, hy, hR⟩ := HY.out pre ⟨x2, A2, c2, (l'.take 3).drop 3, 0⟩ w2 (HJ.out _ _ _ HJS.out (Keep.of_up (UQ.out.trans U2.out))) ⟨(by have := HS2.out; rw [← HLEN.out] at this; exact this), HG2.out⟩; simp only [EF.enc] at hy; rw [HLEN.out] at hy; have HRR := Lib.hid hR; clear hR) | (refine ⟨fun h => by simp [Fence.wide] at h, ?_⟩; refine HRR.out.mono ?_; rintro e W' hpost; obtain ⟨bb, rfl, hpo2⟩ : ∃ bb, e = .returned (.bool bb) ∧ ((bb = true ∧ J (pre ++ [⟨x2, A2, c2, (l'.take 3).drop 3, 0⟩]) W' ∧ KpR w1.heap.size W.heap.size E w2 W') ∨ (bb = false ∧ Jx (pre ++ [⟨x2, A2, c2, (l'.take 3).drop 3, 0⟩]) W')) := (by rcases hpost with ⟨h1, h2, h3⟩ | ⟨h1, h2⟩; exact ⟨true, h1, .inl ⟨rfl, h2, h3⟩⟩; exact ⟨false, h1, .inr ⟨rfl, h2⟩⟩); have HPO := Lib.hid hpo2; clear hpo2 hpost HRR hy))
                all_goals
                  have hpo := HPO.out
                  clear HPO
                  rcases hpo with ⟨rfl, hJ', hk⟩ | ⟨rfl, hJ'⟩
                  · have k0 : W'.heap[bp]? = w2.heap[bp]? := hk.low bp (by omega) hpE
                    have kb : W'.heap[b]? = w2.heap[b]? := hk.low b (by omega) hbE
                    have v0 := (World.cell?_of_block (a := ⟨bp, 0, none⟩) k0).trans ((ca 0).trans hcell)
                    have v1 := (World.frozen?_of_block (a := ⟨bp, 0, none⟩) k0).trans ((cf 0).trans hfz)
                    have kk := Lib.hid (kb.trans ((UQ.out.trans U2.out).block b hbr))
                    have hz3 := hk.size
                    have hz4 := (UQ.out.trans U2.out).size
                    have s3 : bp < W'.heap.size := by omega
                    have HJ' := Lib.hid hJ'
                    clear hJ' hk k0 kb
                    gi_wp2
                    go_roundw
                    case rel =>
                      exact FState.next (x := ⟨x2, A2, c2, (l'.take 3).drop 3, 0⟩) (by first | rfl | simp) HCR.out HAB.out hqA hqb hbne kk.out (HI.out.trans (congrArg (pre.map EF.pl ++ ·) HGD.out)) v0 v1 HJ.out HJ'.out (by omega) (by omega)
                    case measure =>
                      rw [World.cell?_setCell_same (h := v0) .., HC0.out]
                      simp only [slLen]
                      omega
                  · have HJ' := Lib.hid hJ'
                    clear hJ'
                    gi_wp2
                    refine bodyPost_ret (results_none rfl _ _ _) rfl ?_
                    exact ⟨⟨_, rfl⟩, .inr ⟨_, HG2.out, HJ'.out⟩⟩
              · rw [if_neg hc3] at HCT
                gi_wp2
                gi_region_with (first | (refine ⟨trivial, (fun h => by simp [Fence.wide] at h), ?_⟩; gi_at_call 41; refine (callsIn_wide.2 (clone_sl (HCT.out.up (by (repeat (first | with_reducible exact Up.refl _ | with_reducible refine Up.alloc ?_ _ | with_reducible refine Up.drew ?_ | with_reducible refine Up.drewN ?_ _ | with_reducible refine Up.setCell ?_ (by (try simp) <;> omega) _ | with_reducible assumption | with_reducible refine Up.trans ?_ (by assumption))))))).mono ?_; rintro e w2 ⟨A2, c2, rfl, hs2, hu2⟩; have U2 := Lib.hid (show Up wq w2 by (repeat (first | with_reducible exact Up.refl _ | with_reducible refine Up.alloc ?_ _ | with_reducible refine Up.drew ?_ | with_reducible refine Up.drewN ?_ _ | with_reducible refine Up.setCell ?_ (by (try simp) <;> omega) _ | with_reducible assumption | with_reducible refine Up.trans ?_ (by assumption)))); obtain ⟨ca, cf⟩ := U2.out.at_ bp hbw; obtain ⟨cb, cg⟩ := U2.out.at_ b hb; have hz2 := U2.out.size; have s0 : bp < w2.heap.size := (by omega); have s1 : b < w2.heap.size := (by omega); have HS2 := Lib.hid (hs2.low (B' := w.heap.size) (by (try simp); omega)); clear hs2; have HG2 := Lib.hid (show (pre ++ [(⟨x2, A2, c2, (l'.take m).drop 3, 0⟩ : EF)]).map EF.pl <+: items l from ⟨items (l'.drop m), by rw [HI.out, HGD.out, List.map_append]; simp [EF.pl]⟩); obtain ⟨fn, tmps, assign, body, hy, hR⟩ := HY.out pre ⟨x2, A2, c2, (l'.take m).drop 3, 0⟩ w2 (HJ.out _ _ _ HJS.out (Keep.of_up (UQ.out.trans U2.out))) ⟨(by have := HS2.out; rw [← HLEN.out] at this; exact this), HG2.out⟩; simp only [EF.enc] at hy; rw [HLEN.out] at hy; have HRR := Lib.hid hR; clear hR) | (refine ⟨fun h => by simp [Fence.wide] at h, ?_⟩; refine HRR.out.mono ?_; rintro e W' hpost; obtain ⟨bb, rfl, hpo2⟩ : ∃ bb, e = .returned (.bool bb) ∧ ((bb = true ∧ J (pre ++ [⟨x2, A2, c2, (l'.take m).drop 3, 0⟩]) W' ∧ KpR w1.heap.size W.heap.size E w2 W') ∨ (bb = false ∧ Jx (pre ++ [⟨x2, A2, c2, (l'.take m).drop 3, 0⟩]) W')) := (by rcases hpost with ⟨h1, h2, h3⟩ | ⟨h1, h2⟩; exact ⟨true, h1, .inl ⟨rfl, h2, h3⟩⟩; exact ⟨false, h1, .inr ⟨rfl, h2⟩⟩); have HPO := Lib.hid hpo2; clear hpo2 hpost HRR hy))
                all_goals
                  have hpo := HPO.out
                  clear HPO
                  rcases hpo with ⟨rfl, hJ', hk⟩ | ⟨rfl, hJ'⟩
                  · have k0 : W'.heap[bp]? = w2.heap[bp]? := hk.low bp (by omega) hpE
                    have kb : W'.heap[b]? = w2.heap[b]? := hk.low b (by omega) hbE
                    have v0 := (World.cell?_of_block (a := ⟨bp, 0, none⟩) k0).trans ((ca 0).trans hcell)
                    have v1 := (World.frozen?_of_block (a := ⟨bp, 0, none⟩) k0).trans ((cf 0).trans hfz)
                    have kk := Lib.hid (kb.trans ((UQ.out.trans U2.out).block b hbr))
                    have hz3 := hk.size
                    have hz4 := (UQ.out.trans U2.out).size
                    have s3 : bp < W'.heap.size := by omega
                    have HJ' := Lib.hid hJ'
                    clear hJ' hk k0 kb
                    gi_wp2
                    go_roundw
                    case rel =>
                      exact FState.next (x := ⟨x2, A2, c2, (l'.take m).drop 3, 0⟩) (by first | rfl | simp) HCR.out HAB.out hqA hqb hbne kk.out (HI.out.trans (congrArg (pre.map EF.pl ++ ·) HGD.out)) v0 v1 HJ.out HJ'.out (by omega) (by omega)
                    case measure =>
                      rw [World.cell?_setCell_same (h := v0) .., HC0.out]
                      simp only [slLen]
                      omega
                  · have HJ' := Lib.hid hJ'
                    clear hJ'
                    gi_wp2
                    refine bodyPost_ret (results_none rfl _ _ _) rfl ?_
                    exact ⟨⟨_, rfl⟩, .inr ⟨_, HG2.out, HJ'.out⟩⟩
end Go.Proofs.Ytfknakcjhlonoaa
