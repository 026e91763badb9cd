/-
What a page's build computes: its signs and its map of codes. No condition.
What a page's build computes: the walk. No condition.
sync.Once over a page: the first call builds it, later ones do nothing. No condition.
What a page's New, Sign and Code compute. No condition.
A page with its blocks told: New, built, Code, Sign. No condition.
What the reference's Sign and Code compute on a page. No condition.
What the law's pick computes. No condition.
Classes of codes: the sign by a page or none; what Data, Numeric, Shown, Designator compute. No condition.
-/
import Derived.Test.YtamfjgioajmnpaaGreatDoorJa21
import Derived.Deep.DeepMust
import Derived.Test.YtamfjgioajmnpaaGreatDoorJa2
namespace Go.Proofs.YtamfjgioajmnpaaGreatDoor
open Go.RowKit Go.Maps
set_option linter.unusedVariables false
set_option linter.unusedSimpArgs false

/-- a row of a list of structs, as it lies -/
theorem row_atP {α : Type} {k : Nat} {enc : α → List Value} (hk : ∀ x, (enc x).length = k) {w : World} {B b off n : Nat} {L : List α} (h : Reads w B k (some ⟨b, off, none⟩) n (L.flatMap enc)) {j : Nat} {x : α} (hj : L[j]? = some x) (h0 : 0 < k) :
    ∀ i u, (enc x)[i]? = some u → w.cell? ⟨b, off + j * k + i, none⟩ = some u := by
  intro i u hu
  have hjl := (List.getElem?_eq_some_iff.1 hj).1
  have hL : L.length = n := by have := h.1; rw [flatMap_len hk] at this; exact Nat.eq_of_mul_eq_mul_right h0 this
  obtain ⟨b', off', e, hb, hc⟩ := h.2 (by omega)
  injection e with e
  injection e with e1 e2 _
  subst e1; subst e2
  rw [Nat.add_assoc]
  refine hc _ u ?_
  have hi : i < k := by have := (List.getElem?_eq_some_iff.1 hu).1; rw [hk] at this; exact this
  clear hc h hL
  induction L generalizing j with
  | nil => simp at hj
  | cons y L ih =>
    rw [List.flatMap_cons]
    cases j with
    | zero =>
      simp at hj
      subst hj
      rw [List.getElem?_append_left (by rw [hk]; omega)]
      simpa using hu
    | succ j =>
      rw [List.getElem?_append_right (by rw [hk, Nat.succ_mul]; omega), hk]
      rw [show (j + 1) * k + i - k = j * k + i by rw [Nat.succ_mul]; omega]
      exact ih (by simpa using hj) (by simp at hjl; omega)
theorem part_oneP {P : Program} {t : TypeId} {d : TypeDesc} (hu : P.underlying t = some d) (hd : d.isRow = false) (cs : Array Value) (off : Nat) (v : Value) (hv : cs[off]? = some v) (w : World) :
    (part t cs off).run P w = .ok v w := by
  have hagg : (isAgg t).run P w = .ok false w := by
    unfold isAgg
    rw [Sem.run_bind, run_underlying hu w]
    cases d <;> simp_all [TypeDesc.isRow]
  simp [part, Sem.run_bind, hagg, hv]
theorem run_index_arrP {P : Program} {t e : TypeId} {n size : Nat} {cs : Array Value} {v : Value} {w : World} (hu : P.underlying t = some (.array n e)) (i : Nat) (hi : i < n) (hs : (P.info? e).map (·.size) = some size) (hp : (part e cs (i * size)).run P w = .ok v w) :
    (Instr.index t (.agg cs) (.int .i64 (i : Int))).run P w = .ok v w := by
  have hi' : (i : Int) < n := by omega
  cases hq : P.info? e with
  | none => simp [hq] at hs
  | some x =>
    have hx : x.size = size := by simpa [hq] using hs
    simpa [Instr.index, run_underlying hu, asIntOf, hi', hi, go_sem, sizeOf, typeInfo, hq, hx] using hp
theorem rowV_at (d i : Nat) (hd : d < 16) (hi : i < 16) : (rowV d)[i]? = some (.int .u16 (base37.getD (16 * d + i) 0)) := by
  have hl := base37_len
  have h1 : ((base37.drop (16 * d)).take 16)[i]? = some (base37.getD (16 * d + i) 0) := by
    rw [List.getElem?_take, if_pos hi, List.getElem?_drop, List.getD, List.getElem?_eq_getElem (by omega)]
    rfl
  unfold rowV
  rw [List.getElem?_toArray, List.getElem?_map, h1]
  rfl
theorem idx_rowP (d i : Nat) (hd : d < 16) (hi : i < 16) (w : World) : (Instr.index 467 (.agg (rowV d)) (.int .i64 (i : Int))).run Tryz.prog w = .ok (.int .u16 (base37.getD (16 * d + i) 0)) w := by
  refine run_index_arrP Tryz.underlying467 i hi (size := 1) (by kernel_rfl) ?_
  exact part_oneP Tryz.underlying107 rfl _ _ _ (by rw [Nat.mul_one]; exact rowV_at d i hd hi) w
/-- the signs as cells -/
def sgs (S : Nat → Int) : List Value := (List.range 256).map fun i => .int .i32 (S i)
theorem sgs_at (S : Nat → Int) (i : Nat) (hi : i < 256) : (sgs S)[i]? = some (.int .i32 (S i)) := by
  unfold sgs
  rw [List.getElem?_map, List.getElem?_range hi]
  rfl
theorem sgs_len (S : Nat → Int) : (sgs S).length = 256 := by simp [sgs]
theorem idx_sg (S : Nat → Int) (i : Nat) (hi : i < 256) (w : World) : (Instr.index 255 (.agg (sgs S).toArray) (.int .i64 (i : Int))).run Tryz.prog w = .ok (.int .i32 (S i)) w := by
  refine run_index_arrP Tryz.underlying255 i hi (size := 1) (by kernel_rfl) ?_
  exact part_oneP Tryz.underlying21 rfl _ _ _ (by rw [Nat.mul_one]; exact (List.getElem?_toArray ..).trans (sgs_at S i hi)) w
theorem PCells.range {w : World} {b : Nat} {k dn st : Int} {S : Nat → Int} {mp : Option Nat} (h : PCells w b k dn st S mp) : w.rangeAt b 4 (sgs S) := by
  intro j v hv
  have hj : j < 256 := by have := (List.getElem?_eq_some_iff.1 hv).1; rwa [sgs_len] at this
  rw [sgs_at S j hj] at hv
  injection hv with hv
  subst hv
  exact h.sg j hj
theorem base_bd (i : Nat) : 0 ≤ base37.getD i 0 ∧ base37.getD i 0 ≤ 65535 := by
  have h : smallB base37 = true := small_all.1
  by_cases hi : i < base37.length
  · have := List.all_eq_true.1 h _ (List.getElem_mem hi)
    rw [List.getD, List.getElem?_eq_getElem hi]
    simpa using this
  · rw [List.getD, List.getElem?_eq_none (by omega)]
    decide
/-- behind the first n signs of page 37 -/
def sgBase (n : Nat) (i : Nat) : Int := if i < n then base37.getD i 0 else 0
theorem sgBase_step (n : Nat) (i : Nat) : (if i = n then base37.getD n 0 else sgBase n i) = sgBase (n + 1) i := by
  unfold sgBase
  by_cases h : i = n
  · subst h; rw [if_pos rfl, if_pos (by omega)]
  · rw [if_neg h]
    by_cases h2 : i < n
    · rw [if_pos h2, if_pos (by omega)]
    · rw [if_neg h2, if_neg (by omega)]
/-- behind the first j of the others -/
def sgOth (k : Int) (j : Nat) (i : Nat) : Int := (setAll base37 ((ovrL k).take j)).getD i 0
theorem sgOth_zero (k : Int) (i : Nat) (hi : i < 256) : sgBase 256 i = sgOth k 0 i := by
  unfold sgBase sgOth
  rw [if_pos hi]
  rfl
theorem sgOth_step (k : Int) (j : Nat) (p : Int × Int) (h : (ovrL k)[j]? = some p) (i : Nat) (hi : i < 256) : (if i = p.1.toNat then p.2 else sgOth k j i) = sgOth k (j + 1) i := by
  unfold sgOth
  rw [setAll_take _ _ _ _ h]
  have hl : (setAll base37 ((ovrL k).take j)).length = 256 := by rw [setAll_len, base37_len]
  simp only [List.getD, List.getElem?_set]
  by_cases e : i = p.1.toNat
  · subst e; rw [if_pos rfl, if_pos rfl, if_pos (by omega)]; rfl
  · rw [if_neg e, if_neg (fun h => e h.symm)]
theorem sgOth_end (k : Int) (i : Nat) : sgOth k (ovrL k).length i = signN k i := by
  unfold sgOth signN signsL
  rw [List.take_length]
def pairB (p : Int × Int) : Bool := decide (0 ≤ p.1) && decide (p.1 ≤ 255) && decide (0 ≤ p.2) && decide (p.2 ≤ 65535)
theorem ovr_bd (k : Int) {j : Nat} {p : Int × Int} (h : (ovrL k)[j]? = some p) : (0 ≤ p.1 ∧ p.1 ≤ 255) ∧ 0 ≤ p.2 ∧ p.2 ≤ 65535 := by
  have ha : (ovrL k).all pairB = true := by
    unfold ovrL
    split
    · decide +kernel
    split
    · decide +kernel
    split
    · decide +kernel
    split
    · decide +kernel
    split
    · decide +kernel
    decide +kernel
  have := List.all_eq_true.1 ha p (List.mem_of_getElem? h)
  simp only [pairB, Bool.and_eq_true, decide_eq_true_eq] at this
  omega
theorem ovr_len (k : Int) : (ovrL k).length ≤ 25 := by
  unfold ovrL
  split
  · decide +kernel
  split
  · decide +kernel
  split
  · decide +kernel
  split
  · decide +kernel
  split
  · decide +kernel
  decide +kernel
theorem key32 : Keyed Tryz.prog 21 := int_keyed Tryz.underlying21
end Go.Proofs.YtamfjgioajmnpaaGreatDoor
namespace Go.Proofs.YtamfjgioajmnpaaGreatDoor
open Go.RowKit Go.Maps
set_option linter.unusedVariables false
set_option linter.unusedSimpArgs false

theorem wf_i32 {s : Int} (h : 0 ≤ s ∧ s ≤ 2147483647) : (Lit.int .i32 s).wf = true := by
  have h1 : IntKind.min .i32 = -2147483648 := by decide
  have h2 : IntKind.max .i32 = 2147483647 := by decide
  simp only [Lit.wf, h1, h2, Bool.and_eq_true, decide_eq_true_eq]
  omega
theorem wf_u8 {s : Int} (h : 0 ≤ s ∧ s ≤ 255) : (Lit.int .u8 s).wf = true := by
  have h1 : IntKind.min .u8 = 0 := by decide
  have h2 : IntKind.max .u8 = 255 := by decide
  simp only [Lit.wf, h1, h2, Bool.and_eq_true, decide_eq_true_eq]
  omega
theorem make256 (w : World) : (Instr.makeMap 256 (some (.int .i64 256))).run Tryz.prog w = .ok (.map (some w.heap.size)) (w.alloc (.map #[] 0)) := by
  have h := Tryz.underlying256
  simp [Instr.makeMap, run_underlying h, asInt, go_sem]
set_option maxRecDepth 100000 in
set_option maxHeartbeats 3200000 in
theorem build_is (b : Nat) (k : Int) (hk : isPage k = true) (w : World) (h : PCells w b k 0 1 (fun _ => 0) none) :
    Calls Tryz.prog 347 #[.pointer (some ⟨b, 0, none⟩)] w fun e w' => e = .returned (.tuple #[]) ∧ ∃ m, w.heap.size ≤ m ∧ PCells w' b k 0 1 (signN k) (some m) ∧ MapAt w' m (mapD (signN k) 256) 256 ∧ Near b w w' := by
  have hb0 := h.lt
  have H := Lib.hid h
  clear h
  have hmm := make256
  go_enter Tryz.func347, Tryz.ntmps347
  go_wp2_with fail
  go_loopw [11] (fun q wr => ∃ d : Nat, d ≤ 16 ∧ q = .int .i64 (d : Int) ∧ PCells wr b k 0 1 (sgBase (16 * d)) none ∧ Near b w wr) (fun q _ => 16 - (intOf q).toNat)
  case atStart => exact ⟨0, by omega, rfl, H.out.ext fun i hi => by unfold sgBase; rw [if_neg (by omega)], Near.refl b w⟩
  case round =>
    obtain ⟨d, hd, rfl, hp, hn⟩ := hrel
    have HP := Lib.hid hp
    clear hp
    by_cases hlt : d < 16
    · go_wp2_with (go_at_call 378; refine (row_is d hlt _).mono ?_; rintro e w1 ⟨rfl, hu1⟩)
      go_loopw [16] (fun q wq => ∃ i : Nat, i ≤ 16 ∧ q = .int .i64 (i : Int) ∧ PCells wq b k 0 1 (sgBase (16 * d + i)) none ∧ Near b w wq) (fun q _ => 16 - (intOf q).toNat)
      case atStart => exact ⟨0, by omega, rfl, HP.out.up hu1, hn.up hu1⟩
      case round =>
        obtain ⟨i, hi, rfl, hp2, hn2⟩ := hrel
        by_cases hli : i < 16
        · have hc := hp2.sg (16 * d + i) (by omega)
          have hz := hp2.fz (4 + (16 * d + i)) (by omega)
          have hs := (hp2.setS (16 * d + i) (by omega) (base37.getD (16 * d + i) 0)).ext (fun x _ => sgBase_step (16 * d + i) x)
          have hns := hn2.setCell (4 + (16 * d + i)) (.int .i32 (base37.getD (16 * d + i) 0))
          have hbd := base_bd (16 * d + i)
          have hix := fun w => idx_rowP d i hlt hli w
          generalize base37.getD (16 * d + i) 0 = v at *
          have HS := Lib.hid hs
          have HNS := Lib.hid hns
          clear hs hns hp2 hn2 HP hn
          go_wp2
          go_roundw
          case rel => exact ⟨i + 1, by omega, by go_num, HS.out, HNS.out⟩
          case measure => simp [intOf]; omega
        · have he : i = 16 := by omega
          subst he
          have HP2 := Lib.hid hp2
          have HN2 := Lib.hid hn2
          clear hp2 hn2 HP hn hu1
          go_wp2
          go_roundw
          case rel => exact ⟨d + 1, by omega, by go_num, by rw [Nat.mul_add, Nat.mul_one]; exact HP2.out, HN2.out⟩
          case measure => simp [intOf]; omega
    · have he : d = 16 := by omega
      subst he
      have hnum := HP.out.num
      have hltb := HP.out.lt
      go_wp2_with (go_at_call 133; refine (others_is k hk _).mono ?_; rintro e w1 ⟨A, c, rfl, hrd, hnc, hc6, hfar, hu1⟩)
      have hbd := fun j p h => @ovr_bd k j p h
      have hst := fun j p h => sgOth_step k j p h
      have hln := ovr_len k
      have HEND := Lib.hid (sgOth_end k)
      have HST := Lib.hid hst
      have hz0 : PCells w1 b k 0 1 (sgOth k 0) none := (HP.out.up hu1).ext (fun i hi => sgOth_zero k i hi)
      have hn1 := hn.up hu1
      clear hst HP hn hnum
      generalize hL : ovrL k = l at *
      have HN1 := Lib.hid hn1
      have hw1 := hu1.size
      clear hn1 hu1
      go_loopw [42] (fun q wr => ∃ j : Nat, j ≤ l.length ∧ q = .int .i64 (j : Int) ∧ PCells wr b k 0 1 (sgOth k j) none ∧ Near b w1 wr) (fun q _ => l.length - (intOf q).toNat)
      case atStart => exact ⟨0, by omega, rfl, hz0, Near.refl b w1⟩
      case round =>
        obtain ⟨j, hj, rfl, hp, hn⟩ := hrel
        by_cases hlt : j < l.length
        · have hjl : l[j]? = some l[j] := List.getElem?_eq_getElem hlt
          obtain ⟨g, off, rfl, hgb⟩ := hrd.form (by omega)
          have hgw := hfar _ rfl
          simp only at hgw
          have hra := row_atP (k := 2) (enc := encO) (fun _ => rfl) hrd hjl (by omega)
          have hga := (Near.at_ hn g hgb (show g ≠ b by omega)).1
          obtain ⟨⟨hx0, hx1⟩, hy0, hy1⟩ := hbd j l[j] hjl
          have hs := HST.out j l[j] hjl
          have hc0 : wr.cell? ⟨g, off + j * 2, none⟩ = some (.int .u8 l[j].1) := (hga _).trans (hra 0 _ rfl)
          have hc1 : wr.cell? ⟨g, off + j * 2 + 1, none⟩ = some (.int .u16 l[j].2) := (hga _).trans (hra 1 _ rfl)
          generalize l[j] = pr at *
          obtain ⟨x, y⟩ := pr
          simp only at hx0 hx1 hy0 hy1 hs hc0 hc1
          obtain ⟨xn, rfl⟩ : ∃ xn : Nat, x = (xn : Int) := ⟨x.toNat, by omega⟩
          have hxn : xn < 256 := by omega
          rw [Int.toNat_natCast] at hs
          have hgr : g < wr.heap.size := by have := hn.size; omega
          have hbr := hp.lt
          have hpc := hp.sg xn hxn
          have hpz := hp.fz (4 + xn) (by omega)
          have HP := Lib.hid hp
          have HN := Lib.hid hn
          have HS := Lib.hid hs
          clear hra hga hp hn hs hjl hbd hz0 hrd hfar
          go_wp2_with fail
          go_region
          go_wp2
          go_roundw
          case rel => exact ⟨j + 1, by omega, by go_num, (((HP.out.setS xn hxn y).up ((Up.refl _).alloc _)).drew).ext HS.out, ((HN.out.setCell (4 + xn) _).up ((Up.refl _).alloc _)).drew⟩
          case measure => simp [intOf]; omega
        · have he : j = l.length := by omega
          subst he
          have hp1 : PCells wr b k 0 1 (signN k) none := hp.ext (fun i _ => HEND.out i)
          have hmc := hp1.mp
          have hmz := hp1.fz 260 (by omega)
          have hbr := hp1.lt
          have hp2 : PCells ((wr.setCell ⟨b, 260, none⟩ (.map (some wr.heap.size))).alloc (.map #[] 0)) b k 0 1 (signN k) (some wr.heap.size) := (hp1.setMp (some wr.heap.size)).up ((Up.refl _).alloc _)
          have hm2 : MapAt ((wr.setCell ⟨b, 260, none⟩ (.map (some wr.heap.size))).alloc (.map #[] 0)) wr.heap.size (mapD (signN k) 0) 0 := by
            have := World.ownsMap_made (wr.setCell ⟨b, 260, none⟩ (.map (some wr.heap.size))) Tryz.prog 21 (plainElem (H := Unit) Tryz.prog 5)
            rw [show (wr.setCell ⟨b, 260, none⟩ (.map (some wr.heap.size))).heap.size = wr.heap.size by simp [World.setCell]] at this
            exact this
          have hn2 : Near b w1 ((wr.setCell ⟨b, 260, none⟩ (.map (some wr.heap.size))).alloc (.map #[] 0)) := (hn.setCell 260 _).up ((Up.refl _).alloc _)
          have hwm : w1.heap.size ≤ wr.heap.size := hn.size
          have HP2 := Lib.hid hp2
          have HM2 := Lib.hid hm2
          have HN2 := Lib.hid hn2
          have HRG := Lib.hid hp2.range
          have hsb := fun c hc => sign_bd hk (c := c) hc
          clear hp1 hp hz0 hn hbd hp2 hm2 hn2 hfar hrd HST HEND
          go_wp2_with (refine wpList_load_mid rfl 255 (.tmp 62) rfl b 4 rfl (sgs (signN k)) _ HRG.out Tryz.underlying255 rfl (by rw [sgs_len]; kernel_rfl) ?_)
          generalize hw2 : (wr.setCell ⟨b, 260, none⟩ (.map (some wr.heap.size))).alloc (.map #[] 0) = w2 at *
          have hmb : wr.heap.size ≠ b := by omega
          obtain ⟨m, hm⟩ : ∃ m, m = wr.heap.size := ⟨_, rfl⟩
          rw [← hm] at HP2 HM2 hmb hwm
          clear hm
          go_loopw [64] (fun q wq => ∃ j : Nat, j ≤ 256 ∧ q = .int .i64 (j : Int) ∧ PCells wq b k 0 1 (signN k) (some m) ∧ MapAt wq m (mapD (signN k) j) j ∧ Near b w1 wq) (fun q _ => 256 - (intOf q).toNat)
          case atStart => exact ⟨0, by omega, rfl, HP2.out, HM2.out, HN2.out⟩
          case round =>
            obtain ⟨j, hj, rfl, hp, hmp, hn⟩ := hrel
            by_cases hlt : j < 256
            · have hix := fun w => idx_sg (signN k) j hlt w
              obtain ⟨hs0, hs1⟩ := hsb j hlt
              have hD : mapD (signN k) (j + 1) = (mapD (signN k) j).put (.int .i32 (signN k j)) (.lit (.int .u8 j)) := rfl
              have HD := Lib.hid hD
              clear hD hsb
              generalize signN k j = s at *
              have hwf : (Lit.int .i32 s).wf = true := wf_i32 (by omega)
              have hwf8 : (Lit.int .u8 (j : Int)).wf = true := wf_u8 (by omega)
              have hkey := keyOf_int_mk Tryz.underlying21 hwf
              have hpm := hp.mp
              have hbl := hp.lt
              have HP := Lib.hid hp
              have HN := Lib.hid hn
              clear hp hn
              go_wp2_with (at_mapUpdate; refine wpList_mapUpdate_own _ rfl _ _ _ 256 rfl 21 5 key32 Tryz.underlying256 _ m j _ rfl hmp (by unfold maxLen; omega) _ _ _ rfl rfl hkey _ [] (plainElem_int Tryz.underlying5 hwf8) ?_; intro w3 hown3 hgrow3)
              have hmm1 : w1.heap.size ≤ m := hwm
              go_roundw
              case rel => exact ⟨j + 1, by omega, by go_num, HP.out.of_block (hgrow3.block b hbl (fun e => hmb (by injection e with e; exact e.symm))) hgrow3.size, HD.out ▸ hown3, HN.out.far (Below.grown (Below.refl _ _) hgrow3 HN.out.size (fun g hg => by injection hg with hg; omega))⟩
              case measure => simp [intOf]; omega
            · have he : j = 256 := by omega
              subst he
              have HP := Lib.hid hp
              have HN := Lib.hid hn
              have HM := Lib.hid hmp
              clear hp hn hmp
              go_wp2
              go_end0
              exact ⟨rfl, m, by have := HN1.out.size; omega, HP.out, HM.out, HN1.out.trans HN.out⟩
end Go.Proofs.YtamfjgioajmnpaaGreatDoor
namespace Go.Proofs.YtamfjgioajmnpaaGreatDoor
open Go.RowKit Go.Maps
set_option linter.unusedVariables false
set_option linter.unusedSimpArgs false

/-- behind the first call -/
def Done (b : Nat) (k dn st : Int) (w w' : World) : Prop := ∃ m, w.heap.size ≤ m ∧ PCells w' b k dn st (signN k) (some m) ∧ MapAt w' m (mapD (signN k) 256) 256 ∧ Near b w w'
theorem MapAt.near {w w' : World} {m n b : Nat} {D : DataW Unit} (h : MapAt w m D n) (hk : Near b w w') (hne : m ≠ b) : MapAt w' m D n := h.keep hk hne
set_option maxRecDepth 100000 in
set_option maxHeartbeats 1600000 in
theorem slow_is (b : Nat) (k : Int) (hk : isPage k = true) (w : World) (h : PCells w b k 0 0 (fun _ => 0) none) :
    Calls Tryz.prog 161 #[.pointer (some ⟨b, 1, none⟩), .func (.func 347) #[.pointer (some ⟨b, 0, none⟩)] #[]] w fun e w' => e = .returned (.tuple #[]) ∧ Done b k 1 0 w w' := by
  have h1 := h.setSt 1
  have hl := run_call_load (P := Tryz.prog) Tryz.func215 (by kernel_rfl) (by kernel_rfl) (by kernel_rfl) .u32 (by kernel_rfl) (w := w.setCell ⟨b, 2, none⟩ (.int .i32 1)) (a := ⟨b, 1, none⟩) (x := 0) h1.dn
  have hnot : ∀ (x : Bool) (w : World), (Op.unary .not (.bool x)).run Tryz.prog w = .ok (.bool (!x)) w := fun _ _ => rfl
  have hst := h.st
  have hfz := h.fz 2 (by omega)
  have hlt := h.lt
  go_enter_defers Tryz.func161, Tryz.ntmps161
  go_wp2_with (first | (go_at_call 216; refine (lock_free ⟨b, 2, none⟩ _ hst hfz).mono ?_; rintro e w' ⟨rfl, rfl⟩))
  go_wp2_with (first | (go_at_call 347; refine (build_is b k hk _ h1).mono ?_; rintro e w2 ⟨rfl, m, hm, hp2, hmp2, hn2⟩) | (go_at_call 160; go_in))
  refine leaves_cons (f := 218) (args := #[.pointer (some ⟨b, 1, none⟩), .bool true]) (by simp) (by simp [go_sem]) ?_
  refine (store_deferred ⟨b, 1, none⟩ (.int .u32 0) .returning _ hp2.dn (hp2.fz 1 (by omega))).mono ?_
  rintro e u' w3 ⟨rfl, rfl, rfl⟩
  have hp3 := hp2.drew.setDn 1
  have hnm : m ≠ b := hmp2.ne_cell hp2.num
  have hmp3 : MapAt (w2.drew.setCell ⟨b, 1, none⟩ (.int .u32 1)) m (mapD (signN k) 256) 256 := hmp2.near ((Near.refl b w2).drew.setCell 1 _) hnm
  refine leaves_cons (f := 217) (args := #[.pointer (some ⟨b, 2, none⟩)]) (by simp [settle]) (by simp [go_sem]) ?_
  refine (unlock_deferred ⟨b, 2, none⟩ _ _ hp3.st (hp3.fz 2 (by omega))).mono ?_
  rintro e u' w4 ⟨rfl, rfl, rfl⟩
  have hp4 := hp3.setSt 0
  have hn4 : Near b w ((w2.drew.setCell ⟨b, 1, none⟩ (.int .u32 1)).setCell ⟨b, 2, none⟩ (.int .i32 0)) := ((((Near.refl b w).setCell 2 _).trans hn2).drew.setCell 1 _).setCell 2 _
  have hmp4 : MapAt ((w2.drew.setCell ⟨b, 1, none⟩ (.int .u32 1)).setCell ⟨b, 2, none⟩ (.int .i32 0)) m (mapD (signN k) 256) 256 := hmp3.near ((Near.refl b _).setCell 2 _) hnm
  have hm' : w.heap.size ≤ m := by simpa [World.setCell] using hm
  simp [Leaves, settle, results, Tryz.results161]
  exact ⟨m, hm', hp4, hmp4, hn4⟩
set_option maxRecDepth 100000 in
set_option maxHeartbeats 1600000 in
theorem do_first (b : Nat) (k : Int) (hk : isPage k = true) (w : World) (h : PCells w b k 0 0 (fun _ => 0) none) :
    Calls Tryz.prog 115 #[.pointer (some ⟨b, 1, none⟩), .func (.func 347) #[.pointer (some ⟨b, 0, none⟩)] #[]] w fun e w' => e = .returned (.tuple #[]) ∧ Done b k 1 0 w w' := by
  have hl := run_call_load (P := Tryz.prog) Tryz.func215 (by kernel_rfl) (by kernel_rfl) (by kernel_rfl) .u32 (by kernel_rfl) (w := w) (a := ⟨b, 1, none⟩) (x := 0) h.dn
  have hnot : ∀ (x : Bool) (w : World), (Op.unary .not (.bool x)).run Tryz.prog w = .ok (.bool (!x)) w := fun _ _ => rfl
  go_enter Tryz.func115, Tryz.ntmps115
  go_wp2_with (first | (go_at_call 161; refine (slow_is b k hk _ h).mono ?_; rintro e w' ⟨rfl, hd⟩) | (go_at_call 160; go_in))
  go_end0
  exact ⟨rfl, hd⟩
theorem do_done (a : Addr) (fv : Value) (w : World) (h0 : w.cell? a = some (.int .u32 1)) :
    Calls Tryz.prog 115 #[.pointer (some a), fv] w fun e w' => e = .returned (.tuple #[]) ∧ w = w' := by
  have hl := run_call_load (P := Tryz.prog) Tryz.func215 (by kernel_rfl) (by kernel_rfl) (by kernel_rfl) .u32 (by kernel_rfl) h0
  have hnot : ∀ (x : Bool) (w : World), (Op.unary .not (.bool x)).run Tryz.prog w = .ok (.bool (!x)) w := fun _ _ => rfl
  go_enter Tryz.func115, Tryz.ntmps115
  go_wp2
  go_end0
  exact ⟨rfl, rfl⟩
/-- a page with its signs -/
def Built (w : World) (b : Nat) (k : Int) : Prop := ∃ m, m ≠ b ∧ PCells w b k 1 0 (signN k) (some m) ∧ MapAt w m (mapD (signN k) 256) 256
end Go.Proofs.YtamfjgioajmnpaaGreatDoor
namespace Go.Proofs.YtamfjgioajmnpaaGreatDoor
open Go.RowKit Go.Maps
set_option linter.unusedVariables false
set_option linter.unusedSimpArgs false

theorem ret_code {a b : Int} {x y : Bool} (h : a = b) (h' : x = y) : Ending.returned (.tuple #[.int .u8 a, .bool x]) = .returned (.tuple #[.int .u8 b, .bool y]) := by rw [h, h']
theorem zero8 (w : World) : (zeroValue 5).run Tryz.prog w = .ok (.int .u8 0) w := by kernel_rfl
/-- a sign's code, 0 if it has none -/
def codeV (k s : Int) : Int := (((codeN k s).getD 0 : Nat) : Int)
def page0 (k : Int) : List Value := .int .i64 k :: .int .u32 0 :: .int .i32 0 :: .int .u32 0 :: (List.replicate 256 (.int .i32 0) ++ [.map none])
theorem zero_page : Tryz.zeroCells258 = (page0 0).toArray := by kernel_rfl
theorem page0_sg (k : Int) (i : Nat) (hi : i < 256) : (page0 k)[4 + i]? = some (.int .i32 0) := by
  rw [show 4 + i = i + 1 + 1 + 1 + 1 by omega]
  unfold page0
  rw [List.getElem?_cons_succ, List.getElem?_cons_succ, List.getElem?_cons_succ, List.getElem?_cons_succ, List.getElem?_append_left (by rw [List.length_replicate]; exact hi), List.getElem?_replicate, if_pos hi]
theorem page0_mp (k : Int) : (page0 k)[260]? = some (.map none) := by
  show (page0 k)[256 + 1 + 1 + 1 + 1]? = _
  unfold page0
  rw [List.getElem?_cons_succ, List.getElem?_cons_succ, List.getElem?_cons_succ, List.getElem?_cons_succ, List.getElem?_append_right (by rw [List.length_replicate]; omega), List.length_replicate]
  rfl
theorem page_new (k : Int) (w : World) (t : TypeId) : PCells (w.alloc (.cells (Tryz.zeroCells258.setIfInBounds 0 (.int .i64 k)) t)) w.heap.size k 0 0 (fun _ => 0) none := by
  have h0 : Tryz.zeroCells258.setIfInBounds 0 (.int .i64 k) = (page0 k).toArray := by
    rw [zero_page, List.setIfInBounds_toArray]
    rfl
  rw [h0]
  have hc : ∀ o u, (page0 k)[o]? = some u → (w.alloc (.cells (page0 k).toArray t)).cell? ⟨w.heap.size, o, none⟩ = some u := fun o u h => by
    rw [World.cell?_alloc_new]
    exact (List.getElem?_toArray ..).trans h
  exact ⟨by simp, hc _ _ rfl, hc _ _ rfl, hc _ _ rfl, fun i hi => hc _ _ (page0_sg k i hi), hc _ _ (page0_mp k), fun i hi => by simp⟩
end Go.Proofs.YtamfjgioajmnpaaGreatDoor
namespace Go.Proofs.YtamfjgioajmnpaaGreatDoor
open Go.RowKit Go.Maps
set_option linter.unusedVariables false
set_option linter.unusedSimpArgs false

/-- a page as it lies, its blocks among F -/
structure PgA (w : World) (b : Nat) (F : Nat → Prop) (k : Int) : Prop where
  fb : F b
  lt : ∀ i, F i → i < w.heap.size
  at_ : PCells w b k 0 0 (fun _ => 0) none ∨ ∃ m, F m ∧ m ≠ b ∧ PCells w b k 1 0 (signN k) (some m) ∧ MapAt w m (mapD (signN k) 256) 256
section
variable {w w' : World} {b : Nat} {F G E : Nat → Prop} {k : Int}
theorem MapAt.at_ {m n : Nat} {D : DataW Unit} (h : MapAt w m D n) (hb : w'.heap[m]? = w.heap[m]?) : MapAt w' m D n := by
  obtain ⟨es, clock, hb', r⟩ := h
  exact ⟨es, clock, hb.trans hb', r⟩
theorem PgA.hold (h : PgA w b F k) (hh : Hold F w w') (hs : w.heap.size ≤ w'.heap.size) : PgA w' b F k :=
  ⟨h.fb, fun i hi => by have := h.lt i hi; omega, by
    rcases h.at_ with h1 | ⟨m, h0, h1, h2, h3⟩
    · exact .inl (h1.of_block (hh b h.fb) hs)
    · exact .inr ⟨m, h0, h1, h2.of_block (hh b h.fb) hs, h3.at_ (hh m h0)⟩⟩
theorem PgA.up (h : PgA w b F k) (hu : Up w w') : PgA w' b F k := h.hold (fun i hi => hu.block i (h.lt i hi)) hu.size
theorem PgA.keep (h : PgA w b F k) (hk : Keep E w w') (he : ∀ i, F i → ¬ E i) : PgA w' b F k := h.hold (fun i hi => hk.block i (h.lt i hi) (he i hi)) hk.size
theorem PgA.mono (h : PgA w b F k) (hG : ∀ i, F i → G i) (hl : ∀ i, G i → i < w.heap.size) : PgA w b G k :=
  ⟨hG b h.fb, hl, by
    rcases h.at_ with h1 | ⟨m, h0, h1, h2, h3⟩
    · exact .inl h1
    · exact .inr ⟨m, hG m h0, h1, h2, h3⟩⟩
end
/-- built, its map among F -/
def BuA (w : World) (b : Nat) (F : Nat → Prop) (k : Int) : Prop := ∃ m, F m ∧ m ≠ b ∧ PCells w b k 1 0 (signN k) (some m) ∧ MapAt w m (mapD (signN k) 256) 256
set_option maxRecDepth 100000 in
theorem built_pg (b : Nat) (k : Int) {F : Nat → Prop} (hk : isPage k = true) (w : World) (h : PgA w b F k) :
    Calls Tryz.prog 289 #[.pointer (some ⟨b, 0, none⟩)] w fun e w' => e = .returned (.pointer (some ⟨b, 0, none⟩)) ∧ PgA w' b (Gr F w w') k ∧ Built w' b k ∧ BuA w' b (Gr F w w') k ∧ Near b w w' := by
  have hmf : ∀ (fn : Fn) (first cap : Array Value) (w : World), (Instr.makeFunc fn first cap).run Tryz.prog w = .ok (.func fn first cap) w := fun _ _ _ _ => rfl
  have HB := Lib.hid h.fb
  have HL := Lib.hid h.lt
  rcases h.at_ with h | ⟨m, h0, hm, h, hmp⟩
  · go_enter Tryz.func289, Tryz.ntmps289
    go_wp2_with (go_at_call 115; refine (do_first b k hk _ h).mono ?_; rintro e w' ⟨rfl, m, hm, hp, hmp, hn⟩)
    go_ret
    have hml := World.ownsMap.lt hmp
    have hb : BuA w' b (Gr F w w') k := ⟨m, .inr ⟨hm, hml⟩, hmp.ne_cell hp.num, hp, hmp⟩
    exact ⟨rfl, ⟨.inl HB.out, Gr.lt HL.out hn.size, .inr hb⟩, ⟨m, hmp.ne_cell hp.num, hp, hmp⟩, hb, hn⟩
  · go_enter Tryz.func289, Tryz.ntmps289
    go_wp2_with (go_at_call 115; refine (do_done ⟨b, 1, none⟩ _ _ h.dn).mono ?_; rintro e w' ⟨rfl, rfl⟩)
    go_ret
    have hb : BuA w b (Gr F w w) k := ⟨m, .inl h0, hm, h, hmp⟩
    exact ⟨rfl, ⟨.inl HB.out, Gr.lt HL.out (Nat.le_refl _), .inr hb⟩, ⟨m, hm, h, hmp⟩, hb, Near.refl b w⟩
set_option maxRecDepth 100000 in
set_option maxHeartbeats 800000 in
theorem pgcode_is (b : Nat) (k : Int) {F : Nat → Prop} (hk : isPage k = true) (s : Int) (hs : (Lit.int .i32 s).wf = true) (w : World) (h : PgA w b F k) :
    Calls Tryz.prog 240 #[.pointer (some ⟨b, 0, none⟩), .int .i32 s] w fun e w' => e = .returned (.tuple #[.int .u8 (codeV k s), .bool (codeN k s).isSome]) ∧ PgA w' b (Gr F w w') k ∧ Near b w w' := by
  have hnot : ∀ (x : Bool) (w : World), (Op.unary .not (.bool x)).run Tryz.prog w = .ok (.bool (!x)) w := fun _ _ => rfl
  have hkey := keyOf_int_mk Tryz.underlying21 hs
  obtain ⟨hhas, hatk⟩ := mapD_code (k := k) (s := s) hk
  have HAT : Hid (∀ c : Int, (mapD (signN k) 256).atKey (.int .i32 s) (.lit (.int .u8 0)) = .lit (.int .u8 c) → c = codeV k s) := Lib.hid hatk
  clear hatk
  have HB := Lib.hid (built_pg b k hk w h)
  clear h
  generalize hD : mapD (signN k) 256 = D at hhas HAT
  cases hcn : (codeN k s).isSome
  · have HV : Hid (codeV k s = 0) := Lib.hid (by unfold codeV; rw [Option.isSome_eq_false_iff, Option.isNone_iff_eq_none] at hcn; rw [hcn]; rfl)
    have hhas2 : Maps.has D (.int .i32 s) = false := hhas.trans hcn
    clear hhas hcn
    go_enter Tryz.func240, Tryz.ntmps240
    go_wp2_with (first
      | (go_at_call 289; refine HB.out.mono ?_; rintro e w' ⟨rfl, hpg, ⟨m, hmb, hp, hmp⟩, hbu, hn⟩; have hcs := hp.mp; have hbl := hp.lt; have hmp2 : MapAt w' m D 256 := hD ▸ hmp; have HPG := Lib.hid hpg; clear hmp hpg hbu)
      | (at_lookup; refine wpList_lookup_own_ok_int _ rfl _ _ 256 rfl 21 5 .u8 key32 Tryz.underlying256 Tryz.underlying5 (zero8 _) m 256 D rfl hmp2 _ _ rfl hkey ?_; intro c hat hwc))
    go_ret2
    exact ⟨ret_code HV.out.symm rfl, HPG.out, hn⟩
  · have hhas2 : Maps.has D (.int .i32 s) = true := hhas.trans hcn
    clear hhas hcn
    go_enter Tryz.func240, Tryz.ntmps240
    go_wp2_with (first
      | (go_at_call 289; refine HB.out.mono ?_; rintro e w' ⟨rfl, hpg, ⟨m, hmb, hp, hmp⟩, hbu, hn⟩; have hcs := hp.mp; have hbl := hp.lt; have hmp2 : MapAt w' m D 256 := hD ▸ hmp; have HPG := Lib.hid hpg; clear hmp hpg hbu)
      | (at_lookup; refine wpList_lookup_own_ok_int _ rfl _ _ 256 rfl 21 5 .u8 key32 Tryz.underlying256 Tryz.underlying5 (zero8 _) m 256 D rfl hmp2 _ _ rfl hkey ?_; intro c hat hwc))
    go_ret2
    exact ⟨ret_code (HAT.out c hat) rfl, HPG.out, hn⟩
set_option maxRecDepth 100000 in
theorem pgnew_is (k : Int) (hk : isPage k = true) (w : World) :
    Calls Tryz.prog 96 #[.int .i64 k] w fun e w' => ∃ b, e = .returned (.tuple #[.pointer (some ⟨b, 0, none⟩), .int .i64 0]) ∧ PgA w' b (Gr (fun _ => False) w w') k ∧ Up w w' := by
  have hnot : ∀ (x : Bool) (w : World), (Op.unary .not (.bool x)).run Tryz.prog w = .ok (.bool (!x)) w := fun _ _ => rfl
  go_enter Tryz.func96, Tryz.ntmps96
  go_wp2_with (go_at_call 133; refine (others_is k hk _).mono ?_; rintro e w1 ⟨A, c, rfl, hrd, hnc, hc6, hfar, hu1⟩)
  go_ret2
  have hz := hu1.size
  exact ⟨w1.heap.size, rfl, ⟨.inr ⟨hz, by simp⟩, fun i hi => hi.elim (fun h => h.elim) (fun h => h.2), .inl (page_new k w1 _)⟩, hu1.alloc _⟩
end Go.Proofs.YtamfjgioajmnpaaGreatDoor
namespace Go.Proofs.YtamfjgioajmnpaaGreatDoor
open Go.RowKit
set_option linter.unusedVariables false
set_option linter.unusedSimpArgs false

end Go.Proofs.YtamfjgioajmnpaaGreatDoor
namespace Go.Proofs.YtamfjgioajmnpaaGreatDoor
open Go.RowKit Go.Maps
set_option linter.unusedVariables false
set_option linter.unusedSimpArgs false

end Go.Proofs.YtamfjgioajmnpaaGreatDoor
namespace Go.Proofs.YtamfjgioajmnpaaGreatDoor
open Go.RowKit Go.Maps
set_option linter.unusedVariables false
set_option linter.unusedSimpArgs false

def dataN (c : Int) : Bool := decide (64 ≤ c) && decide (c < 255)
set_option maxHeartbeats 400000 in
theorem data_is (c : Int) (w : World) : Calls Tryz.prog 199 #[.int .u8 c] w fun e w' => e = .returned (.bool (dataN c)) ∧ w = w' := by
  unfold dataN
  cases e1 : decide (64 ≤ c)
  all_goals
    go_enter Tryz.func199, Tryz.ntmps199
    go_wp2
    go_ret
    exact ⟨rfl, rfl⟩
end Go.Proofs.YtamfjgioajmnpaaGreatDoor
