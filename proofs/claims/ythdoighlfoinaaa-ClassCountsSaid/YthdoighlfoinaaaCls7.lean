/-
  Counts of classes: eight numbers as they lie; what Count computes. No condition.
-/
import Derived.Test.YthdoighlfoinaaaCls6
import Derived.ChangeKeysEq
import Derived.Laws.StructEq
import Derived.Deep.MidRow
import Derived.Laws.CopyOwn
import Derived.Deep.DeepMust
namespace Go.Proofs.Ythdoighlfoinaaa
open Go.RowKit Go.Maps
set_option linter.unusedVariables false
set_option linter.unusedSimpArgs false

theorem cut_own {A : Option Addr} {n c : Nat} {l : List Int} {w : World} (hr : Reads w w.heap.size 1 A n (bs l)) (hn : n ≤ c) (hc : c ≤ maxLen) (m : Int) (hm : 0 ≤ m) (hm' : m ≤ 65536) :
    Calls Try.prog 31 #[.slice A n c, .int .i64 m] w fun e w' => ∃ A' n' c', e = .returned (.slice A' n' c') ∧ (n' : Int) ≤ m ∧ Reads w' w'.heap.size 1 A' n' (bs (l.take m.toNat)) ∧ (∀ p, A' = some p → w.heap.size ≤ p.block) ∧ n' ≤ c' ∧ c' ≤ maxLen ∧ Up w w' := by
  refine (cut_any A n c l m w hr hn hc hm hm').mono ?_
  rintro e w' ⟨A', n', c', rfl, h1, h2, h3, h4, h5⟩
  refine ⟨A', n', c', rfl, ?_, Reads.of_own h2, ?_, h3, h4, h5⟩
  · have : (n' : Int) ≤ (m.toNat : Int) := by rw [h1]; exact_mod_cast Nat.min_le_right _ _
    omega
  · rintro p rfl
    have := own_bd h2 p.block
    rcases h2.2 with ⟨e1, _⟩ | ⟨g, cap, cur, e1, h6, _⟩
    · cases e1
    · injection e1 with e1 _ _
      injection e1 with e1
      subst e1
      exact h6
theorem bs_at {w : World} {B b off n : Nat} {l : List Int} (hr : Reads w B 1 (some ⟨b, off, none⟩) n (bs l)) (j : Nat) (hj : j < n) : w.cell? ⟨b, off + j, none⟩ = some (.int .u8 (l.getD j 0)) := by
  have hl : l.length = n := by have := hr.1; simpa [bs] using this
  obtain ⟨b', off', e, _, hc⟩ := hr.2 (by omega)
  injection e with e
  injection e with e1 e2 _
  subst e1; subst e2
  exact hc j _ (by rw [bs, List.getElem?_map, List.getD, List.getElem?_eq_getElem (show j < l.length by omega)]; rfl)
/-- eight numbers -/
def n8 (f : Nat → Int) : List Value := (List.range 8).map fun i => .int .i64 (f i)
theorem n8_len (f : Nat → Int) : (n8 f).length = 8 := by simp [n8]
theorem n8_at (f : Nat → Int) (i : Nat) (hi : i < 8) : (n8 f)[i]? = some (.int .i64 (f i)) := by
  unfold n8
  rw [List.getElem?_map, List.getElem?_range hi]
  rfl
theorem n8_one (f : Nat → Int) : ∀ v ∈ n8 f, v.oneCell' = true := by
  intro v hv
  simp only [n8, List.mem_map] at hv
  obtain ⟨_, _, rfl⟩ := hv
  rfl
structure Cnt (w : World) (b : Nat) (f : Nat → Int) : Prop where
  lt : b < w.heap.size
  cell : ∀ i, i < 8 → w.cell? ⟨b, i, none⟩ = some (.int .i64 (f i))
  fz : ∀ i, i < 8 → w.frozen? ⟨b, i, none⟩ = false
theorem Cnt.of_block {w w' : World} {b : Nat} {f : Nat → Int} (h : Cnt w b f) (hb : w'.heap[b]? = w.heap[b]?) (hs : w.heap.size ≤ w'.heap.size) : Cnt w' b f :=
  ⟨by have := h.lt; omega, fun i hi => (World.cell?_of_block hb).trans (h.cell i hi), fun i hi => (World.frozen?_of_block hb).trans (h.fz i hi)⟩
theorem Cnt.keep {w w' : World} {b : Nat} {f : Nat → Int} (h : Cnt w b f) {E : Nat → Prop} (hk : Keep E w w') (he : ¬ E b) : Cnt w' b f := h.of_block (hk.block b h.lt he) hk.size
theorem Cnt.up {w w' : World} {b : Nat} {f : Nat → Int} (h : Cnt w b f) (hk : Up w w') : Cnt w' b f := h.of_block (hk.block b h.lt) hk.size
theorem Cnt.set {w : World} {b : Nat} {f : Nat → Int} (h : Cnt w b f) (i : Nat) (hi : i < 8) (v : Int) : Cnt (w.setCell ⟨b, i, none⟩ (.int .i64 v)) b (fun j => if j = i then v else f j) := by
  refine ⟨by simp [World.setCell]; exact h.lt, fun j hj => ?_, fun j hj => ?_⟩
  · by_cases e : j = i
    · subst e
      rw [World.cell?_setCell_same (h := h.cell j hj)]; simp
    · rw [World.cell?_setCell_other (h := ad_ne (fun h => e h.symm))]; simp only [if_neg e]; exact h.cell j hj
  · rw [World.frozen?_setCell]; exact h.fz j hj
theorem Cnt.ext {w : World} {b : Nat} {f g : Nat → Int} (h : Cnt w b f) (he : ∀ i, i < 8 → f i = g i) : Cnt w b g := ⟨h.lt, fun i hi => by rw [← he i hi]; exact h.cell i hi, h.fz⟩
theorem Cnt.range {w : World} {b : Nat} {f : Nat → Int} (h : Cnt w b f) : w.rangeAt b 0 (n8 f) := by
  intro j v hv
  have hj : j < 8 := by have := (List.getElem?_eq_some_iff.1 hv).1; rwa [n8_len] at this
  rw [n8_at f j hj] at hv
  injection hv with hv
  subst hv
  rw [Nat.zero_add]
  exact h.cell j hj
def zero8s : Array Value := #[.int .i64 0, .int .i64 0, .int .i64 0, .int .i64 0, .int .i64 0, .int .i64 0, .int .i64 0, .int .i64 0]
theorem Cnt.new (w : World) (t : TypeId) : Cnt (w.alloc (.cells zero8s t)) w.heap.size (fun _ => 0) := by
  refine ⟨by simp, fun i hi => ?_, fun i hi => by simp⟩
  rw [World.cell?_alloc_new]
  match i, hi with
  | 0, _ | 1, _ | 2, _ | 3, _ | 4, _ | 5, _ | 6, _ | 7, _ => rfl
/-- how many of the codes are of class i -/
def cntN (k : Int) (l : List Int) (i : Nat) : Int := ((l.filter fun x => clsN x (signN k x.toNat) == (i : Int)).length : Nat)
theorem cnt_nil (k : Int) (i : Nat) : cntN k [] i = 0 := rfl
theorem cnt_step (k : Int) (l : List Int) (j v : Nat) (hj : j < l.length) (hv : clsN (l.getD j 0) (signN k (l.getD j 0).toNat) = (v : Int)) (i : Nat) :
    (if i = v then cntN k (l.take j) v + 1 else cntN k (l.take j) i) = cntN k (l.take (j + 1)) i := by
  have hg : l.getD j 0 = l[j] := by rw [List.getD, List.getElem?_eq_getElem hj]; rfl
  rw [hg] at hv
  unfold cntN
  rw [List.take_succ_eq_append_getElem hj, List.filter_append, List.length_append, List.filter_cons, hv]
  by_cases e : i = v
  · subst e
    simp
  · have : ((v : Int) == (i : Int)) = false := by simp; omega
    rw [this, if_neg e]
    simp
theorem cnt_bd (k : Int) (l : List Int) (i : Nat) : 0 ≤ cntN k l i ∧ cntN k l i ≤ l.length := by
  unfold cntN
  have := List.length_filter_le (fun x => clsN x (signN k x.toNat) == (i : Int)) l
  omega
theorem sig_bd (s : Int) : 0 ≤ sigN s ∧ sigN s < 8 := by
  unfold sigN
  split
  · omega
  split <;> omega
theorem cls_bd (c s : Int) : 0 ≤ clsN c s ∧ clsN c s < 8 := by
  unfold clsN
  split
  · omega
  split
  · omega
  split
  · omega
  split
  · omega
  split
  · omega
  · exact sig_bd s
theorem PAt.other {w w' : World} {b g : Nat} {k : Int} {v : Value} (h : PAt w b k) (hc : w.cell? ⟨g, 0, none⟩ = some v) (hne : b ≠ g) (hk : Near g w w') : PAt w' b k := by
  rcases h with h | ⟨m, hm, h, h2⟩
  · exact .inl (h.keep hk hne)
  · exact .inr ⟨m, hm, h.keep hk hne, h2.keep hk (h2.ne_cell hc)⟩
theorem PgAt.other {w w' : World} {p : Option Nat} {g : Nat} {k : Int} {v : Value} (h : PgAt w p k) (hc : w.cell? ⟨g, 0, none⟩ = some v) (hne : p ≠ some g) (hk : Near g w w') : PgAt w' p k := by
  cases p with
  | none => exact h
  | some b => exact PAt.other h hc (fun e => hne (by rw [e])) hk
set_option maxRecDepth 100000 in
set_option maxHeartbeats 1600000 in
theorem count_is (p : Option Nat) (k : Int) (hk : isPage k = true) (A : Option Addr) (n c : Nat) (l : List Int) (w : World) (hp : PgAt w p k) (hr : Reads w w.heap.size 1 A n (bs l)) (hw : ∀ x ∈ l, 0 ≤ x ∧ x ≤ 255) (hA : ∀ a : Addr, A = some a → p ≠ some a.block) (hn : n ≤ 65536) (hpl : ∀ i, p = some i → i < w.heap.size) :
    Calls Try.prog 33 #[pv p, .slice A n c] w fun e w' => e = .returned (.agg (n8 (cntN k l)).toArray) ∧ NearP p w w' := by
  have hl : l.length = n := by have := hr.1; simpa [bs] using this
  have H := Lib.hid hr
  have HP := Lib.hid hp
  clear hr hp
  go_enter Try.func33, Try.ntmps33
  go_wp2_with fail
  have hcn : Cnt ((w.alloc (.cells zero8s 44)).alloc (.cells zero8s 44)) (w.heap.size + 1) (fun _ => 0) := by
    have := Cnt.new (w.alloc (.cells zero8s 44)) 44
    simpa using this
  have hres : ((w.alloc (.cells zero8s 44)).alloc (.cells zero8s 44)).heap[w.heap.size]? = some (.cells zero8s 44 (0, 0)) :=
    (((Up.refl _).alloc (.cells zero8s 44)).block w.heap.size (by simp)).trans (heap_alloc_new w _)
  have hu0 : Up w ((w.alloc (.cells zero8s 44)).alloc (.cells zero8s 44)) := ((Up.refl w).alloc _).alloc _
  have hs0 : ((w.alloc (.cells zero8s 44)).alloc (.cells zero8s 44)).heap.size = w.heap.size + 2 := by simp
  unfold zero8s at hcn hres hu0 hs0
  generalize (w.alloc (.cells #[Value.int .i64 0, .int .i64 0, .int .i64 0, .int .i64 0, .int .i64 0, .int .i64 0, .int .i64 0, .int .i64 0] 44)).alloc (.cells #[Value.int .i64 0, .int .i64 0, .int .i64 0, .int .i64 0, .int .i64 0, .int .i64 0, .int .i64 0, .int .i64 0] 44) = w0 at *
  have HC := Lib.hid hcn
  have HRS := Lib.hid hres
  have HU := Lib.hid hu0
  clear hcn hres hu0
  go_loopw [10] (fun q wr => ∃ j : Nat, j ≤ n ∧ q = .int .i64 (j : Int) ∧ PgAt wr p k ∧ Cnt wr (w.heap.size + 1) (cntN k (l.take j)) ∧ Keep (fun i => p = some i ∨ i = w.heap.size + 1) w0 wr) (fun q _ => n - (intOf q).toNat)
  case atStart => exact ⟨0, by omega, rfl, HP.out.up HU.out, HC.out.ext (fun i _ => (cnt_nil k i).symm), Keep.refl _ w0⟩
  case round =>
    obtain ⟨j, hj, rfl, hpg, hct, hkp⟩ := hrel
    by_cases hlt : j < n
    · obtain ⟨b1, off, rfl, hb1⟩ := H.out.form (by omega)
      have hx := hw (l.getD j 0) (by rw [List.getD, List.getElem?_eq_getElem (by omega)]; exact List.getElem_mem _)
      have hrw := (H.out.up HU.out).kept hkp (fun a ha => by injection ha with ha; subst ha; rintro (h | h); exact hA _ rfl h; simp only at h; omega)
      have hc := bs_at hrw j hlt
      have hbl : b1 < wr.heap.size := by have := hkp.size; omega
      obtain ⟨xn, hxn⟩ : ∃ xn : Nat, l.getD j 0 = (xn : Int) := ⟨(l.getD j 0).toNat, by omega⟩
      have hst := cnt_step k l j
      rw [hxn] at hc hx hst
      have h1 := of_is p k hk xn (by omega) wr hpg
      obtain ⟨hv0, hv8⟩ := cls_bd (xn : Int) (signN k xn)
      obtain ⟨vn, hvn⟩ : ∃ vn : Nat, clsN (xn : Int) (signN k xn) = (vn : Int) := ⟨(clsN (xn : Int) (signN k xn)).toNat, by omega⟩
      rw [Int.toNat_natCast] at hst
      have hst2 := hst vn (by omega) hvn
      rw [hvn] at h1 hv8
      have hvn8 : vn < 8 := by omega
      have hcb := cnt_bd k (l.take j) vn
      have hlt2 : (l.take j).length ≤ 65536 := by rw [List.length_take]; omega
      have HST := Lib.hid hst2
      have HKP := Lib.hid hkp
      have HCT := Lib.hid hct
      clear hst hst2 hrw hkp hct hvn hpg
      generalize hfv : cntN k (l.take j) vn = fv at *
      have HFV := Lib.hid hfv
      clear hfv
      go_wp2_with (go_at_call 53; (with_reducible refine h1.mono ?_); rintro e w2 ⟨rfl, hp2, hn2⟩; have hct2 := HCT.out.keep hn2 (fun h => by have := hpl _ h; omega); have hcv := hct2.cell vn hvn8; have hcz := hct2.fz vn hvn8; have hcl := hct2.lt; rw [HFV.out] at hcv; have HCT2 := Lib.hid hct2; clear hct2)
      go_roundw
      case rel =>
        have hnear := (Near.refl (w.heap.size + 1) w2).setCell vn (.int .i64 (fv + 1))
        refine ⟨j + 1, by omega, by go_num, hp2.other (HCT2.out.cell 0 (by omega)) (fun h => by have := hpl _ h; omega) hnear, (HCT2.out.set vn hvn8 (fv + 1)).ext (fun i _ => ?_), (HKP.out.trans (Keep.mono hn2 (fun i hi => .inl hi))).trans (Keep.mono hnear (fun i hi => .inr hi))⟩
        have := HST.out i
        exact this
      case measure => simp [intOf]; omega
    · have he : j = n := by omega
      subst he
      have hfull : cntN k (l.take j) = cntN k l := by rw [List.take_of_length_le (by omega)]
      rw [hfull] at hct
      have hrs := (hkp.block w.heap.size (by omega) (fun h => by rcases h with h | h; (have := hpl _ h; omega); omega)).trans HRS.out
      have HRG := Lib.hid hct.range
      have HRS2 := Lib.hid hrs
      have HKP := Lib.hid hkp
      have hrl : w.heap.size < wr.heap.size := by have := hct.lt; omega
      have HSZ1 : (Try.prog.info? 44).map (·.size) = some (n8 (cntN k l)).toArray.size := by rw [List.size_toArray, n8_len]; kernel_rfl
      have HSZ2 : (#[Value.int .i64 0, .int .i64 0, .int .i64 0, .int .i64 0, .int .i64 0, .int .i64 0, .int .i64 0, .int .i64 0] : Array Value).size = (n8 (cntN k l)).toArray.size := by simp [n8_len]
      have HALL : (n8 (cntN k l)).toArray.all (·.oneCell') = true := by rw [List.all_toArray]; exact List.all_eq_true.2 (n8_one _)
      clear hrs hkp hct hfull
      go_wp2_with (first
        | (refine wpList_load_mid rfl 44 (.tmp 5) rfl (w.heap.size + 1) 0 rfl (n8 (cntN k l)) _ HRG.out Try.underlying44 rfl (by rw [n8_len]; kernel_rfl) ?_)
        | (refine wpList_store_row rfl 44 (.tmp 4) (.tmp 22) rfl w.heap.size (n8 (cntN k l)).toArray rfl rfl 44 _ HRS2.out HSZ1 HSZ2 HALL ?_))
      have hfin : NearP p w (wr.setRow w.heap.size (n8 (cntN k l)).toArray) := by
        have h1 : NearP p w wr := by
          refine ⟨HKP.out.os.trans HU.out.os, HKP.out.tape.trans HU.out.tape, HKP.out.output.trans HU.out.output, by have := HU.out.size; have := HKP.out.size; omega, fun i hi hne => ?_⟩
          exact (HKP.out.block i (by omega) (fun h => by rcases h with h | h; exact hne h; omega)).trans (HU.out.block i hi)
        exact Keep.far h1 (below_setRow (Below.refl _ _) (Nat.le_refl _) _)
      exact bodyPost_ret (v := .agg (n8 (cntN k l)).toArray) (results_cell_row rfl _ _ w.heap.size 44 (n8 (cntN k l)).toArray (0, 0) _ rfl (setRow_heap _ _ _ _ _ _ HRS2.out) Try.underlying44 rfl HSZ1) rfl ⟨rfl, hfin⟩
end Go.Proofs.Ythdoighlfoinaaa
