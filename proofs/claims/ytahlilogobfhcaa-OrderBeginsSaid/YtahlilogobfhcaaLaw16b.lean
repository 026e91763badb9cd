/-
  OrderBegins. No condition but the slice's own reach.
-/
import Derived.Test.YtahlilogobfhcaaSm16
import Derived.Test.YtahlilogobfhcaaOrdP
import Derived.Test.YtahlilogobfhcaaMixT
import Derived.Deep.CutBlock
namespace Go.Proofs.Ytahlilogobfhcaa
open Go.RowKit
set_option linter.unusedVariables false
set_option linter.unusedSimpArgs false

/-- a new box of an order of nothing -/
def RBx (B : Nat) (v : Value) (W : World) : Prop := ∃ g, v = .pointer (some ⟨g, 0, none⟩) ∧ Op7 W g 0 0 0 false 0 noS noS ∧ B ≤ g ∧ ∃ cur q, W.heap[g]? = some (.cells cur 38 q)
/-- an order by value, with its pairs -/
def ROp (k a c : Int) (g : Bool) (f : Int) (np : Nat) (L : List (Int × Int)) (ts : Value) (v : Value) (W : World) : Prop :=
  ∃ A' c', v = .agg #[.int .i64 k, .int .i64 a, .int .u8 c, .bool g, .int .u8 f, .slice A' np c', ts] ∧ Reads W W.heap.size 2 A' np (ps L) ∧ ∀ p, A' = some p → ∃ cur q, W.heap[p.block]? = some (.cells cur 51 q)
theorem rbx_up (B : Nat) (v : Value) (W W' : World) (h : RBx B v W) (hu : Up W W') : RBx B v W' := by
  obtain ⟨g, h1, h2, h3, h4⟩ := h
  exact ⟨g, h1, h2.up hu, h3, by rw [hu.block g h2.lt]; exact h4⟩
theorem rop_up (k a c : Int) (g : Bool) (f : Int) (np : Nat) (L : List (Int × Int)) (ts : Value) (v : Value) (W W' : World) (h : ROp k a c g f np L ts v W) (hu : Up W W') : ROp k a c g f np L ts v W' := by
  obtain ⟨A', c', h1, h2, h3⟩ := h
  exact ⟨A', c', h1, h2.up hu, fun p hp => by
    obtain ⟨cur, q, e⟩ := h3 p hp
    exact ⟨cur, q, by rw [hu.block _ (Array.getElem?_eq_some_iff.1 e).1]; exact e⟩⟩
theorem rbx_new (B : Nat) (W : World) (hB : B ≤ W.heap.size) : RBx B (.pointer (some ⟨W.heap.size, 0, none⟩)) (W.alloc (.cells #[.int .i64 0, .int .i64 0, .int .u8 0, .bool false, .int .u8 0, .slice none 0 0, .slice none 0 0] 38)) :=
  ⟨_, rfl, Op7.newT 38 W 0 0 0 false 0 noS noS _ rfl, hB, _, _, heap_alloc_new _ _⟩
theorem tag_ne {W : World} {A : Option Addr} {e e' : TypeId} {b : Nat} (h : ∀ p, A = some p → ∃ cur q, W.heap[p.block]? = some (.cells cur e q)) (hb : ∃ cur q, W.heap[b]? = some (.cells cur e' q)) (hne : e ≠ e') : ∀ p, A = some p → p.block ≠ b := fun p hp e1 => by
  obtain ⟨cur, q, h1⟩ := h p hp
  obtain ⟨cur', q', h2⟩ := hb
  rw [e1, h2] at h1
  injection h1 with h1
  injection h1 with _ h1 _
  exact hne h1.symm
theorem ne_r5 : 51 ≠ 38 := by decide
/-- an order in a box, with what it holds, none of it in F's blocks -/
def Zat (F : Nat → Prop) (W : World) (b : Nat) (o : OpP) : Prop := ∃ A n c At nt ct, Op7 W b o.kind o.addr o.code o.graph o.fa (.slice A n c) (.slice At nt ct) ∧ Reads W W.heap.size 2 A n (ps o.prs) ∧ n ≤ 65536 ∧ Sl 0 W At nt ct o.tx ∧ (∀ p, A = some p → ¬ F p.block) ∧ ∀ p, At = some p → ¬ F p.block
/-- both boxes filled -/
theorem fill_two {wr W : World} {bx by_ : Nat} {x y : OpP} {A5 A6 : Option Addr} {n5 c5 n6 c6 : Nat} {T5 T6 : Option Addr} {m5 d5 m6 d6 : Nat} (hu : Up wr W) (hx : Op7 W bx 0 0 0 false 0 noS noS) (hy : Op7 W by_ 0 0 0 false 0 noS noS) (hxl : wr.heap.size ≤ bx) (hyl : wr.heap.size ≤ by_)
    (hxt : ∃ cur q, W.heap[bx]? = some (.cells cur 38 q)) (hyt : ∃ cur q, W.heap[by_]? = some (.cells cur 38 q))
    (r5 : Reads W W.heap.size 2 A5 n5 (ps x.prs)) (g5 : ∀ p, A5 = some p → ∃ cur q, W.heap[p.block]? = some (.cells cur 51 q)) (s5 : n5 ≤ 65536)
    (r6 : Reads W W.heap.size 2 A6 n6 (ps y.prs)) (g6 : ∀ p, A6 = some p → ∃ cur q, W.heap[p.block]? = some (.cells cur 51 q)) (s6 : n6 ≤ 65536)
    (t5 : Sl 0 wr T5 m5 d5 x.tx) (t6 : Sl 0 wr T6 m6 d6 y.tx) :
    Zat (fun k => k = bx ∨ k = by_) (st7 (st7 W bx x.kind x.addr x.code x.graph x.fa (.slice A5 n5 c5) (.slice T5 m5 d5)) by_ y.kind y.addr y.code y.graph y.fa (.slice A6 n6 c6) (.slice T6 m6 d6)) by_ y ∧
      Up wr (st7 (st7 W bx x.kind x.addr x.code x.graph x.fa (.slice A5 n5 c5) (.slice T5 m5 d5)) by_ y.kind y.addr y.code y.graph y.fa (.slice A6 n6 c6) (.slice T6 m6 d6)) ∧
      (bx ≠ by_ → Zat (fun k => k = bx ∨ k = by_) (st7 (st7 W bx x.kind x.addr x.code x.graph x.fa (.slice A5 n5 c5) (.slice T5 m5 d5)) by_ y.kind y.addr y.code y.graph y.fa (.slice A6 n6 c6) (.slice T6 m6 d6)) bx x) := by
  have hk1 := st7_keep W bx x.kind x.addr x.code x.graph x.fa (.slice A5 n5 c5) (.slice T5 m5 d5) (E := fun k => k = bx ∨ k = by_) (.inl rfl)
  have hk2 := st7_keep (st7 W bx x.kind x.addr x.code x.graph x.fa (.slice A5 n5 c5) (.slice T5 m5 d5)) by_ y.kind y.addr y.code y.graph y.fa (.slice A6 n6 c6) (.slice T6 m6 d6) (E := fun k => k = bx ∨ k = by_) (.inr rfl)
  have hk := hk1.trans hk2
  have hU : Up wr _ := hu.keep hk (fun k e => by rcases e with rfl | rfl <;> assumption)
  have hA : ∀ {A : Option Addr}, (∀ p, A = some p → ∃ cur q, W.heap[p.block]? = some (.cells cur 51 q)) → ∀ p, A = some p → ¬ (p.block = bx ∨ p.block = by_) := fun hg p hp e => by
    rcases e with e | e
    · exact tag_ne hg hxt ne_r5 p hp e
    · exact tag_ne hg hyt ne_r5 p hp e
  have hT : ∀ {T : Option Addr} {m d : Nat} {l : List Int}, Sl 0 wr T m d l → ∀ p, T = some p → ¬ (p.block = bx ∨ p.block = by_) := fun ht p hp e => by
    have := ht.lt hp
    omega
  refine ⟨⟨A6, n6, c6, T6, m6, d6, ?_, r6.kept hk (hA g6), s6, t6.up hU, hA g6, hT t6⟩, hU, fun hne => ⟨A5, n5, c5, T5, m5, d5, ?_, r5.kept hk (hA g5), s5, t5.up hU, hA g5, hT t5⟩⟩
  · by_cases hne : bx = by_
    · subst hne; exact (hx.st x.kind x.addr x.code x.graph x.fa (.slice A5 n5 c5) (.slice T5 m5 d5)).st _ _ _ _ _ _ _
    · exact (hy.keep (st7_keep W bx x.kind x.addr x.code x.graph x.fa (.slice A5 n5 c5) (.slice T5 m5 d5) (E := fun k => k = bx) rfl) (fun e => hne e.symm)).st _ _ _ _ _ _ _
  · exact (hx.st _ _ _ _ _ _ _).keep (st7_keep _ by_ y.kind y.addr y.code y.graph y.fa (.slice A6 n6 c6) (.slice T6 m6 d6) (E := fun k => k = by_) rfl) hne
theorem ords_len (n : Nat) : ∀ l : List Int, l.length ≤ n → (ordsOf l).1.length ≤ l.length := by
  induction n with
  | zero =>
    intro l hl
    have : l = [] := List.eq_nil_of_length_eq_zero (by omega)
    subst this
    simp [ordsOf, allP]
  | succ n ih =>
    intro l hl
    cases h : one l with
    | none => rw [ords_none h]; simp
    | some t =>
      obtain ⟨o, r⟩ := t
      have hs := one_short h
      have := ih r (by omega)
      rw [ords_some h]
      simp
      omega
set_option maxRecDepth 100000 in
set_option maxHeartbeats 12800000 in
theorem law_begins (A : Option Addr) (n c : Nat) (L : List Int) (t : Int) (w : World) (hl : L.length = n) (hn : n ≤ c) (hc : c ≤ maxLen) (hw : ∀ x ∈ L, 0 ≤ x ∧ x ≤ 255) (hr : Reads w w.heap.size 1 A n (L.map (Value.int .u8))) (t0 : 0 ≤ t) (t1 : t ≤ 65535) :
    Calls Try.prog 4 #[.slice A n c, .int .u16 t] w fun e w' => e = .returned (.bool true) ∧ Up w w' := by
  have HR := Lib.hid (show Reads w w.heap.size 1 A n (bs L) from hr)
  have HW := Lib.hid hw
  have HL := Lib.hid hl
  clear hr hw hl
  go_enter Try.func4, Try.ntmps4
  go_wp2_with fail
  refine (awake16 _).mono ?_
  rintro e w0 ⟨rfl, hu0⟩
  have HU0 := Lib.hid hu0
  clear hu0
  go_wp2_with fail
  refine (cut_any A n c L 300 _ (HR.out.up HU0.out) hn hc (by omega) (by omega)).mono ?_
  rintro e w1 ⟨A1, n1, c1, rfl, hn1, hown, hc1, hm1, hu1⟩
  have hsl := Sl.of_own (B := 0) (own_base hown (Nat.zero_le _)) hc1 hm1 (by omega) (BL.take HW.out 300)
  simp only [show (300 : Int).toNat = 300 from rfl] at hsl hn1
  obtain ⟨l, hll⟩ : ∃ l, L.take 300 = l := ⟨_, rfl⟩
  rw [hll] at hsl
  have HSL := Lib.hid hsl
  have hlen := hsl.len
  have hn1' : n1 ≤ 300 := by omega
  have HU1 := Lib.hid (HU0.out.trans hu1)
  have HLEN := Lib.hid hlen
  obtain ⟨m, hm⟩ : ∃ m : Nat, (m : Int) = t % ((n1 : Int) + 1) := ⟨(t % ((n1 : Int) + 1)).toNat, by
    have := Int.emod_nonneg t (show ((n1 : Int) + 1) ≠ 0 by omega)
    omega⟩
  have hmn : m ≤ n1 := by
    have := Int.emod_lt_of_pos t (show 0 < ((n1 : Int) + 1) by omega)
    omega
  have hmt : t % ((n1 : Int) + 1) = (m : Int) := hm.symm
  clear hown hu1 hsl hlen hll hn1 hm
  go_wp2_with fail
  refine (all_is HSL.out).mono ?_
  rintro e w2 ⟨A2, c2, ys, x2, rfl, hol2, hm2, hx2, hu2⟩
  have HOL2 := Lib.hid hol2
  have HM2 := Lib.hid hm2
  have HU2 := Lib.hid (HU1.out.trans hu2)
  have HSL2 := Lib.hid ((HSL.out.up hu2).take hmn)
  obtain ⟨k2, hk2⟩ : ∃ k2, (n1 : Int) - ((ordsOf l).2.length : Int) = k2 := ⟨_, rfl⟩
  rw [hk2]
  clear hol2 hm2 hx2 hu2 hk2
  go_wp2_with fail
  refine (all_is HSL2.out).mono ?_
  rintro e w3 ⟨A3, c3, xs, x3, rfl, hol3, hm3, hx3, hu3⟩
  have HOL3 := Lib.hid hol3
  have HOY3 := Lib.hid (HOL2.out.up hu3)
  have HU3 := Lib.hid (HU2.out.trans hu3)
  obtain ⟨p1, p2⟩ := ords_app _ (l.take m) (l.drop m) (Nat.le_refl _)
  rw [List.take_append_drop, ← hm3, ← HM2.out] at p1 p2
  simp only [List.length_map] at p1
  have HPRE := Lib.hid (show ∀ i x y, xs[i]? = some x → ys[i]? = some y → x.o = y.o ∨ (i + 1 = xs.length ∧ Cutt x.o y.o) from fun i x y hx hy => by
    have := p2 i x.o y.o (by rw [List.getElem?_map, hx]; rfl) (by rw [List.getElem?_map, hy]; rfl)
    simpa using this)
  obtain ⟨k3, hk3⟩ : ∃ k3, (m : Int) - ((ordsOf (l.take m)).2.length : Int) = k3 := ⟨_, rfl⟩
  have hkm : k3 ≤ (m : Int) := by omega
  have hke : x3 = 0 → k3 = (m : Int) := fun e => by
    rw [hx3.1 e] at hk3
    simpa using hk3.symm
  have HKE := Lib.hid hke
  rw [hk3]
  have hxy : (xs.length : Int) ≤ (ys.length : Int) := by omega
  have HXY := Lib.hid p1
  have hlx : xs.length ≤ 65536 ∧ ys.length ≤ 65536 := by
    have h1 := ords_len _ l (Nat.le_refl _)
    rw [← HM2.out, List.length_map] at h1
    have h2 := HLEN.out
    omega
  clear hol3 hm3 hx3 hu3 hk3 p1 p2 hke
  have HX3 := Lib.hid (show (x3 == 0) = true ∧ k3 = (m : Int) ∨ (x3 == 0) = false by
    by_cases e : x3 = 0
    · exact .inl ⟨by simp [e], HKE.out e⟩
    · exact .inr (by simpa using e))
  go_upto_region 6 with (fail)
  go_cut [66] from 38 to 66 (fun s66 wx => s66 = .bool false ∧ wx = w3)
  case first =>
    rcases HX3.out with ⟨hx3, rfl⟩ | hx3
    all_goals
      go_wp2_with fail
      go_meet
      exact ⟨congrArg Value.bool (by simp; omega), rfl⟩
  case rest =>
    obtain ⟨rfl, hwc⟩ := hcut
    have hwc' := hwc.symm
    subst hwc'
    clear hkm hxy
    go_wp2_with fail
    go_loopw [69] (fun i wr => ∃ j : Nat, j ≤ xs.length ∧ i = .int .i64 (j : Int) ∧ Up w3 wr) (fun i _ => xs.length - (intOf i).toNat)
    case atStart => exact ⟨0, by omega, rfl, Up.refl _⟩
    case round =>
      obtain ⟨j, hj, rfl, hup⟩ := hrel
      have HUP := Lib.hid hup
      by_cases hlt : j < xs.length
      · have hly : j < ys.length := by have := HXY.out; omega
        obtain ⟨x, hx⟩ : ∃ x, xs[j]? = some x := ⟨_, List.getElem?_eq_getElem hlt⟩
        obtain ⟨y, hy⟩ : ∃ y, ys[j]? = some y := ⟨_, List.getElem?_eq_getElem hly⟩
        have HREL := Lib.hid (HPRE.out j x y hx hy)
        obtain ⟨gx, rfl, hgx, zgx⟩ := HOL3.out.form (by omega)
        obtain ⟨gy, rfl, hgy, zgy⟩ := HOY3.out.form (by omega)
        have hox := (HOL3.out.up hup).at_ hx
        have hoy := (HOY3.out.up hup).at_ hy
        have HPX := Lib.hid ((HOL3.out.up hup).prs x (List.mem_of_getElem? hx))
        have HTX := Lib.hid ((HOL3.out.up hup).txs x (List.mem_of_getElem? hx))
        have HPY := Lib.hid ((HOY3.out.up hup).prs y (List.mem_of_getElem? hy))
        have HTY := Lib.hid ((HOY3.out.up hup).txs y (List.mem_of_getElem? hy))
        obtain ⟨xo, xAp, xnp, xcp, xAt, xnt, xct⟩ := x
        obtain ⟨yo, yAp, ynp, ycp, yAt, ynt, yct⟩ := y
        simp only at HREL HPX HTX HPY HTY
        obtain ⟨a0, a1, a2, a3, a4, a5, a6⟩ := hox
        obtain ⟨b0, b1, b2, b3, b4, b5, b6⟩ := hoy
        simp only at a0 a1 a2 a3 a4 a5 a6 b0 b1 b2 b3 b4 b5 b6
        have hq1 : (j : Int) < (xs.length : Int) := by omega
        have hq2 : (j : Int) < (ys.length : Int) := by omega
        have hzx : gx < wr.heap.size := by have := hup.size; omega
        have hzy : gy < wr.heap.size := by have := hup.size; omega
        have HBX := Lib.hid (fun W (hu : Up wr W) => back_is (k := xo.kind) (a := xo.addr) (c := xo.code) (g := xo.graph) (f := xo.fa) (At := xAt) (nt := xnt) (ct := xct) (HPX.out.up hu))
        have HBY := Lib.hid (fun W (hu : Up wr W) => back_is (k := yo.kind) (a := yo.addr) (c := yo.code) (g := yo.graph) (f := yo.fa) (At := yAt) (nt := ynt) (ct := yct) (HPY.out.up hu))
        clear hup hx hy hgx hgy zgx zgy hly
        go_wp2_with fail
        refine wp_region_mixT 9 (NS := [(75, (ROp xo.kind xo.addr xo.code xo.graph xo.fa xnp xo.prs (.slice xAt xnt xct))), (80, (ROp yo.kind yo.addr yo.code yo.graph yo.fa ynp yo.prs (.slice yAt ynt yct))), (13, (RBx wr.heap.size)), (14, (RBx wr.heap.size))]) [75, 80, 13, 14] rfl (by kernel_rfl) (by kernel_rfl) (by simp) (by intro p hp; simp only [List.mem_cons, List.mem_nil_iff, or_false] at hp; rcases hp with rfl | rfl | rfl | rfl; all_goals (first | exact rsl_up _ | exact rptr_up _ | exact rms_up _ | exact spanAt_up _ _ _ _ _ | exact rcs_up _ | exact rfb_up _ _ | exact rbx_up _ | exact rop_up _ _ _ _ _ _ _ _)) ?_
        simp only [List.take_succ_cons, List.take_zero, List.drop_succ_cons, List.drop_zero]
        repeat (first
          | (refine mix_skip rfl rfl ?_; simp only [Act.put, List.setIfInBounds_toArray, List.set_cons_succ, List.set_cons_zero])
          | (refine mix_q rfl rfl rfl (by kernel_rfl) rfl rfl rfl ?_
             apply Exists.intro
             refine ⟨fun Wm => ?_, ?_⟩
             · simp only [fin]
               repeat (rintro (vm : Value) hvm; first | (obtain ⟨gm, om, rfl, hgm, hcm⟩ := hvm) | (obtain ⟨gm, om, cm, rfl, h2m, hxm, hgm, hcm, hdm⟩ := rsl_two hvm) | (obtain ⟨Am, nm, cm, rfl, hnm, hlm, hmm, hrm⟩ := hvm; (try simp only [List.length_cons, List.length_nil, Nat.zero_add, Nat.reduceAdd] at hnm); subst hnm) | (have hvs := hvm; obtain ⟨bm1, bm2, bm3, rfl, hbl, hbz, hbc⟩ := hvm) | (obtain ⟨gm, rfl, hbm, hlm⟩ := hvm))
               intro K hK
               go_wp2_with (first | (go_at_call 12; (with_reducible refine (HBX.out _ (((Up.refl wr).alloc _).trans (up_upOf _ _))).mono ?_); rintro e w' ⟨A', c', rfl, hr', hle', hux⟩; have hrop : ROp xo.kind xo.addr xo.code xo.graph xo.fa xnp xo.prs (.slice xAt xnt xct) _ w' := ⟨A', c', rfl, hr', hle'⟩) | (go_at_call 12; (with_reducible refine (HBY.out _ (((Up.refl wr).alloc _).trans (up_upOf _ _))).mono ?_); rintro e w' ⟨A', c', rfl, hr', hle', hux⟩; have hrop : ROp yo.kind yo.addr yo.code yo.graph yo.fa ynp yo.prs (.slice yAt ynt yct) _ w' := ⟨A', c', rfl, hr', hle'⟩))
               refine hK _ _ ?_ ?_ ?_
               · (repeat (first | with_reducible exact Up.refl _ | with_reducible refine Up.alloc ?_ _ | with_reducible refine Up.drew ?_ | with_reducible refine Up.drewN ?_ _ | with_reducible refine Up.setCell ?_ (by (try simp) <;> omega) _ | with_reducible assumption | with_reducible refine Up.trans ?_ (by assumption)))
               · rfl
               · exact tmps_at rfl
             simp only [Act.put, List.setIfInBounds_toArray, List.set_cons_succ, List.set_cons_zero])
          | (refine mix_n rfl rfl rfl (by kernel_rfl) rfl rfl rfl ?_ ?_
             · intro Wm
               simp only [fin]
               repeat (rintro (vm : Value) hvm; first | (obtain ⟨gm, om, rfl, hgm, hcm⟩ := hvm) | (obtain ⟨gm, om, cm, rfl, h2m, hxm, hgm, hcm, hdm⟩ := rsl_two hvm) | (obtain ⟨Am, nm, cm, rfl, hnm, hlm, hmm, hrm⟩ := hvm; (try simp only [List.length_cons, List.length_nil, Nat.zero_add, Nat.reduceAdd] at hnm); subst hnm) | (have hvs := hvm; obtain ⟨bm1, bm2, bm3, rfl, hbl, hbz, hbc⟩ := hvm) | (obtain ⟨gm, rfl, hbm, hlm⟩ := hvm))
               intro K hK
               go_wp2_with (first | (go_at_call 12; (with_reducible refine (HBX.out _ (((Up.refl wr).alloc _).trans (up_upOf _ _))).mono ?_); rintro e w' ⟨A', c', rfl, hr', hle', hux⟩; have hrop : ROp xo.kind xo.addr xo.code xo.graph xo.fa xnp xo.prs (.slice xAt xnt xct) _ w' := ⟨A', c', rfl, hr', hle'⟩) | (go_at_call 12; (with_reducible refine (HBY.out _ (((Up.refl wr).alloc _).trans (up_upOf _ _))).mono ?_); rintro e w' ⟨A', c', rfl, hr', hle', hux⟩; have hrop : ROp yo.kind yo.addr yo.code yo.graph yo.fa ynp yo.prs (.slice yAt ynt yct) _ w' := ⟨A', c', rfl, hr', hle'⟩))
               apply hK
               · (repeat (first | with_reducible exact Up.refl _ | with_reducible refine Up.alloc ?_ _ | with_reducible refine Up.drew ?_ | with_reducible refine Up.drewN ?_ _ | with_reducible refine Up.setCell ?_ (by (try simp) <;> omega) _ | with_reducible assumption | with_reducible refine Up.trans ?_ (by assumption)))
               · rfl
               · exact tmps_at rfl
               · first | exact rsl_lit _ _ _ _ _ _ rfl rfl (by simp [maxLen]) rfl | exact ⟨_, _, rfl, hgm, hcm⟩ | exact ⟨_, _, rfl, hgm, hdm⟩ | assumption | exact rbx_new _ _ (Nat.le_trans (by simp) (up_upOf _ _).size)
             simp only [Act.put, List.setIfInBounds_toArray, List.set_cons_succ, List.set_cons_zero]))
        refine mix_nil ?_
        intro w5 hb_w5
        simp only [fin]
        intro vm_w5_0 hvm_w5_0
        intro vm_w5_1 hvm_w5_1
        intro vm_w5_2 hvm_w5_2
        intro vm_w5_3 hvm_w5_3
        simp only [Act.put, List.setIfInBounds_toArray, List.set_cons_succ, List.set_cons_zero]
        obtain ⟨A5, c5, rfl, hr5, hg5⟩ := hvm_w5_0
        obtain ⟨A6, c6, rfl, hr6, hg6⟩ := hvm_w5_1
        obtain ⟨bx, rfl, hbx, hbxl, hbxt⟩ := hvm_w5_2
        obtain ⟨by_, rfl, hby, hbyl, hbyt⟩ := hvm_w5_3
        have HUW := Lib.hid (show Up wr w5 from ((Up.refl wr).alloc _).trans hb_w5)
        have HX5 := Lib.hid hbx
        have HY5 := Lib.hid hby
        have HR5 := Lib.hid hr5
        have HR6 := Lib.hid hr6
        have HTX5 := Lib.hid (HTX.out.up HUW.out)
        have HTY5 := Lib.hid (HTY.out.up HUW.out)
        obtain ⟨fx, zx, x0, x1, x2', x3', x4, x5, x6⟩ := hbx
        obtain ⟨fy, zy, y0, y1, y2, y3, y4, y5, y6⟩ := hby
        unfold noS at x5 x6 y5 y6
        clear hr5 hr6 hb_w5 a0 a1 a2 a3 a4 a5 a6 b0 b1 b2 b3 b4 b5 b6
        have HFT := Lib.hid (fill_two (x := xo) (y := yo) (n5 := xnp) (c5 := c5) (n6 := ynp) (c6 := c6) HUW.out HX5.out HY5.out hbxl hbyl hbxt hbyt HR5.out hg5 HPX.out.small HR6.out hg6 HPY.out.small (HTX.out.low (Nat.zero_le _)) (HTY.out.low (Nat.zero_le _)))
        clear hbxt hbyt hg5 hg6
        by_cases hne : bx = by_
        · subst hne
          go_upto_region 12 with (fail)
          have h6 := HFT.out
          unfold st7 at h6
          generalize ((((((((((((((w5.setCell _ _).setCell _ _).setCell _ _).setCell _ _).setCell _ _).setCell _ _).setCell _ _).setCell _ _).setCell _ _).setCell _ _).setCell _ _).setCell _ _).setCell _ _).setCell _ _) = W6 at *
          clear HFT HUW HX5 HY5 HR5 HR6 HTX5 HTY5 HBX HBY fx zx x0 x1 x2' x3' x4 x5 x6 fy zy y0 y1 y2 y3 y4 y5 y6
          obtain ⟨⟨Ay, ny, cy, Ty, my, dy, hz2, rz2, sz2, tz2, fa2, ft2⟩, hu6, hz⟩ := h6
          have HU6 := Lib.hid (HUP.out.trans hu6)
          obtain ⟨f2, l2, y0, y1, y2, y3, y4, y5, y6⟩ := hz2
          have HRZ2 := Lib.hid rz2
          have HTZ2 := Lib.hid tz2
          have hcap := tz2.cap
          have hlen2 := tz2.len
          clear hz hu6 rz2 tz2
          have hzw : w3.heap.size ≤ wr.heap.size := HUP.out.size
          by_cases hlast : j + 1 = xs.length
          · have hql : ((j : Int) == (xs.length : Int) - 1) = true := by simp; omega
            by_cases hk0 : yo.kind = 0
            · rw [hk0] at y0
              have hmy : (my : Int) ≤ (dy : Int) := by omega
              go_wp2_with fail
              refine (rsame_is (B1 := 0) (B2 := 0) (HRZ2.out.kept (near_set _ bx 6 _) (fun p hp e => fa2 p hp (.inl e))) (HRZ2.out.kept (near_set _ bx 6 _) (fun p hp e => fa2 p hp (.inl e))) sz2 (HTZ2.out.past (near_set _ bx 6 _) (fun p hp e => ft2 p hp (.inl e))) (HTZ2.out.past (near_set _ bx 6 _) (fun p hp e => ft2 p hp (.inl e)))).mono ?_
              rintro e w8 ⟨rfl, hu8⟩
              have HU8 := Lib.hid (show Up w3 w8 from (HU6.out.keep (near_set _ bx 6 _) (fun k e => by omega)).trans hu8)
              clear hu8
              go_wp2_with fail
              go_roundw
              case rel => exact ⟨j + 1, by omega, by go_num, HU8.out⟩
              case measure => simp [intOf]; omega
            · have hkf : (yo.kind == 0) = false := by simpa using hk0
              go_wp2_with fail
              refine (rsame_is (B1 := 0) (B2 := 0) HRZ2.out HRZ2.out sz2 HTZ2.out HTZ2.out).mono ?_
              rintro e w8 ⟨rfl, hu8⟩
              have HU8 := Lib.hid (show Up w3 w8 from (HU6.out).trans hu8)
              clear hu8
              go_wp2_with fail
              go_roundw
              case rel => exact ⟨j + 1, by omega, by go_num, HU8.out⟩
              case measure => simp [intOf]; omega
          · have hql : ((j : Int) == (xs.length : Int) - 1) = false := by simp; omega
            go_wp2_with fail
            refine (rsame_is (B1 := 0) (B2 := 0) HRZ2.out HRZ2.out sz2 HTZ2.out HTZ2.out).mono ?_
            rintro e w8 ⟨rfl, hu8⟩
            have HU8 := Lib.hid (show Up w3 w8 from (HU6.out).trans hu8)
            clear hu8
            go_wp2_with fail
            go_roundw
            case rel => exact ⟨j + 1, by omega, by go_num, HU8.out⟩
            case measure => simp [intOf]; omega
        · go_upto_region 12 with (fail)
          have h6 := HFT.out
          unfold st7 at h6
          generalize ((((((((((((((w5.setCell _ _).setCell _ _).setCell _ _).setCell _ _).setCell _ _).setCell _ _).setCell _ _).setCell _ _).setCell _ _).setCell _ _).setCell _ _).setCell _ _).setCell _ _).setCell _ _) = W6 at *
          clear HFT HUW HX5 HY5 HR5 HR6 HTX5 HTY5 HBX HBY fx zx x0 x1 x2' x3' x4 x5 x6 fy zy y0 y1 y2 y3 y4 y5 y6
          obtain ⟨⟨Ay, ny, cy, Ty, my, dy, hz2, rz2, sz2, tz2, fa2, ft2⟩, hu6, hz⟩ := h6
          have HU6 := Lib.hid (HUP.out.trans hu6)
          obtain ⟨f2, l2, y0, y1, y2, y3, y4, y5, y6⟩ := hz2
          have HRZ2 := Lib.hid rz2
          have HTZ2 := Lib.hid tz2
          have hcap := tz2.cap
          have hlen2 := tz2.len
          obtain ⟨Ax, nx, cx, Tx, mx, dx, hz1, rz1, sz1, tz1, fa1, ft1⟩ := hz hne
          obtain ⟨f1, l1, x0, x1, x2', x3', x4, x5, x6⟩ := hz1
          have HRZ1 := Lib.hid rz1
          have HTZ1 := Lib.hid tz1
          have hlen1 := tz1.len
          clear hz hu6 rz2 tz2 rz1 tz1
          have hzw : w3.heap.size ≤ wr.heap.size := HUP.out.size
          have hn1 : xo.prs.length = nx := by have := HRZ1.out.1; rw [ps_len] at this; omega
          have hn2 : yo.prs.length = ny := by have := HRZ2.out.1; rw [ps_len] at this; omega
          have hW : (j + 1 = xs.length ∧ xo.kind = 0 ∧ yo.kind = 0 ∧ mx ≤ my ∧ xo.tx = yo.tx.take mx ∧ xo.addr = yo.addr ∧ xo.code = yo.code ∧ xo.graph = yo.graph ∧ xo.fa = yo.fa ∧ xo.prs = yo.prs) ∨ ((j + 1 ≠ xs.length ∨ xo.kind ≠ 0) ∧ xo = yo) := by
            rcases HREL.out with heq | ⟨hlast, d1, d2, d3, d4⟩
            · subst heq
              by_cases hc : j + 1 = xs.length ∧ xo.kind = 0
              · exact .inl ⟨hc.1, hc.2, hc.2, by omega, by rw [← hlen1, List.take_length], rfl, rfl, rfl, rfl, rfl⟩
              · exact .inr ⟨by omega, rfl⟩
            · have e1 := congrArg OpP.tx d4
              rw [hlen1] at e1
              exact .inl ⟨hlast, d1, d2, by omega, e1, (by have h := congrArg OpP.addr d4; exact h), (by have h := congrArg OpP.code d4; exact h), (by have h := congrArg OpP.graph d4; exact h), (by have h := congrArg OpP.fa d4; exact h), (by have h := congrArg OpP.prs d4; exact h)⟩
          obtain ⟨xk, xa, xc, xg, xf, xp, xt⟩ := xo
          obtain ⟨yk, ya, yc, yg, yf, yp, yt⟩ := yo
          simp only at hW hn1 hn2 hlen1 hlen2 HRZ1 HRZ2 HTZ1 HTZ2 x0 x1 x2' x3' x4 y0 y1 y2 y3 y4
          clear HREL HPX HTX HPY HTY
          rcases hW with ⟨hlast, rfl, rfl, hmm, rfl, rfl, rfl, rfl, rfl, rfl⟩ | ⟨hor, heq⟩
          · obtain rfl : nx = ny := by omega
            have hql : ((j : Int) == (xs.length : Int) - 1) = true := by simp; omega
            have hmy : (mx : Int) ≤ (my : Int) := by omega
            have hmd : (mx : Int) ≤ (dy : Int) := by omega
            go_wp2_with fail
            refine (rsame_is (B1 := 0) (B2 := 0) (HRZ1.out.kept (near_set _ by_ 6 _) (fun p hp e => fa1 p hp (.inr e))) (HRZ2.out.kept (near_set _ by_ 6 _) (fun p hp e => fa2 p hp (.inr e))) sz1 (HTZ1.out.past (near_set _ by_ 6 _) (fun p hp e => ft1 p hp (.inr e))) ((HTZ2.out.take hmm).past (near_set _ by_ 6 _) (fun p hp e => ft2 p hp (.inr e)))).mono ?_
            rintro e w8 ⟨rfl, hu8⟩
            have HU8 := Lib.hid (show Up w3 w8 from (HU6.out.keep (near_set _ by_ 6 _) (fun k e => by omega)).trans hu8)
            clear hu8
            go_wp2_with fail
            go_roundw
            case rel => exact ⟨j + 1, by omega, by go_num, HU8.out⟩
            case measure => simp [intOf]; omega
          · injection heq with e0 e1 e2 e3 e4 e5 e6
            subst e0 e1 e2 e3 e4 e5 e6
            obtain rfl : nx = ny := by omega
            obtain rfl : mx = my := by omega
            by_cases hlast : j + 1 = xs.length
            · have hkf : (xk == 0) = false := by
                rcases hor with h | h
                · exact absurd hlast h
                · simpa using h
              have hql : ((j : Int) == (xs.length : Int) - 1) = true := by simp; omega
              go_wp2_with fail
              refine (rsame_is (B1 := 0) (B2 := 0) HRZ1.out HRZ2.out sz1 HTZ1.out HTZ2.out).mono ?_
              rintro e w8 ⟨rfl, hu8⟩
              have HU8 := Lib.hid (show Up w3 w8 from (HU6.out).trans hu8)
              clear hu8
              go_wp2_with fail
              go_roundw
              case rel => exact ⟨j + 1, by omega, by go_num, HU8.out⟩
              case measure => simp [intOf]; omega
            · have hql : ((j : Int) == (xs.length : Int) - 1) = false := by simp; omega
              go_wp2_with fail
              refine (rsame_is (B1 := 0) (B2 := 0) HRZ1.out HRZ2.out sz1 HTZ1.out HTZ2.out).mono ?_
              rintro e w8 ⟨rfl, hu8⟩
              have HU8 := Lib.hid (show Up w3 w8 from (HU6.out).trans hu8)
              clear hu8
              go_wp2_with fail
              go_roundw
              case rel => exact ⟨j + 1, by omega, by go_num, HU8.out⟩
              case measure => simp [intOf]; omega
      · obtain rfl : j = xs.length := by omega
        go_wp2_with fail
        go_ret
        exact ⟨rfl, HU3.out.trans HUP.out⟩
end Go.Proofs.Ytahlilogobfhcaa
