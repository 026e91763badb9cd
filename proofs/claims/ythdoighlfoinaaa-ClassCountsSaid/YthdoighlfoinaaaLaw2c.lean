/-
  The walk of ClassCounts. No condition.
-/
import Derived.Test.YthdoighlfoinaaaCls7
import Derived.Stop.RegionWithIn
import Derived.Deep.RegionHeld3
namespace Go.Proofs.Ythdoighlfoinaaa
open Go.RowKit Go.Maps
set_option linter.unusedVariables false
set_option linter.unusedSimpArgs false

theorem eq_items (f : Nat → Int) (w : World) : ∀ is : List Nat, (∀ i ∈ is, i < 8) → (Op.eqItems 9999 3 1 (n8 f).toArray (n8 f).toArray is).run Try.prog w = .ok true w
  | [], _ => by simp [Op.eqItems]
  | i :: is, h => by
    have hi := h i (List.mem_cons_self ..)
    have hp := part_one (P := Try.prog) Try.underlying3 rfl (n8 f).toArray (i * 1) (.int .i64 (f i)) (by rw [Nat.mul_one]; exact (List.getElem?_toArray ..).trans (n8_at f i hi)) w
    have he : (Op.equalIn 9999 3 (.int .i64 (f i)) (.int .i64 (f i))).run Try.prog w = .ok true w := by
      rw [run_equalIn_int (P := Try.prog) w 9998 3 .i64 .i64 (f i) (f i) Try.underlying3]
      simp
    simp only [Op.eqItems, Sem.run_bind, hp, he, Result.andThen_ok]
    simpa using eq_items f w is (fun j hj => h j (List.mem_cons_of_mem _ hj))
theorem eq_n8 (f : Nat → Int) (w : World) : (Op.equalIn 10000 44 (.agg (n8 f).toArray) (.agg (n8 f).toArray)).run Try.prog w = .ok true w := by
  obtain ⟨i, hi⟩ : ∃ i, Try.prog.info? 3 = some i := by
    have h : (Try.prog.info? 3).isSome = true := by kernel_rfl
    exact Option.isSome_iff_exists.1 h
  rw [run_equalIn_array (P := Try.prog) w 9999 _ _ Try.underlying44 hi, show Try.prog.cellsOf 3 = 1 by kernel_rfl]
  exact eq_items f w _ (fun i hi => List.mem_range.1 hi)
theorem n8_lit (f : Nat → Int) : (n8 f).toArray = #[.int .i64 (f 0), .int .i64 (f 1), .int .i64 (f 2), .int .i64 (f 3), .int .i64 (f 4), .int .i64 (f 5), .int .i64 (f 6), .int .i64 (f 7)] := rfl
set_option maxRecDepth 100000 in
set_option maxHeartbeats 3200000 in
theorem law_counts (m : Int) (A : Option Addr) (n c : Nat) (L : List Int) (w : World) (m0 : 0 ≤ m) (m1 : m ≤ 255) (hl : L.length = n) (hn : n ≤ c) (hc : c ≤ maxLen) (hw : ∀ x ∈ L, 0 ≤ x ∧ x ≤ 255) (hr : Reads w w.heap.size 1 A n (L.map (Value.int .u8))) :
    Calls Try.prog 9 #[.int .u8 m, .slice A n c] w fun e w' => e = .returned (.bool true) ∧ Up w w' := by
  have hnot : ∀ (x : Bool) (w : World), (Op.unary .not (.bool x)).run Try.prog w = .ok (.bool (!x)) w := fun _ _ => rfl
  have HR : Hid (Reads w w.heap.size 1 A n (bs L)) := Lib.hid hr
  have HW := Lib.hid hw
  clear hr hw
  go_enter Try.func9, Try.ntmps9
  go_wp2_with (first
    | (go_at_call 26; refine (awake02 _).mono ?_; rintro e w1 ⟨rfl, hu1⟩)
    | (go_at_call 27; refine (pick02 m ⟨m0, m1⟩ _).mono ?_; rintro e w2 ⟨p, k, rfl, hk, hb, hp, hu2⟩)
    | (go_at_call 31; refine (cut_own (HR.out.up (hu1.trans hu2)) hn hc 300 (by omega) (by omega)).mono ?_; rintro e w3 ⟨A', n', c', rfl, hn3, hr3, hf3, hnc, hc3, hu3⟩))
  have hz : ∀ i, p = some i → w.heap.size ≤ i ∧ i < w2.heap.size := fun i hi => by
    have := hb i hi
    have := hu1.size
    subst hi
    exact ⟨by omega, PAt.lt hp⟩
  have hs2 := hu2.size
  have hs1 := hu1.size
  have hs3 := hu3.size
  have HU := Lib.hid ((hu1.trans hu2).trans hu3)
  have HP := Lib.hid (hp.up hu3)
  have hA : ∀ a : Addr, A' = some a → p ≠ some a.block := fun a ha h => by have := hf3 a ha; have := (hz _ h).2; omega
  have hlb : ∀ x ∈ L.take 300, 0 ≤ x ∧ x ≤ 255 := fun x hx => HW.out x (List.mem_of_mem_take hx)
  clear hu1 hu2 hu3 hp
  generalize hl' : L.take (300 : Int).toNat = l at *
  replace hlb : ∀ x ∈ l, 0 ≤ x ∧ x ≤ 255 := by rw [← hl']; exact hlb
  clear hl'
  have hln : l.length = n' := by have := hr3.1; simpa [bs] using this
  have hcn : Cnt (w3.alloc (.cells zero8s 44)) w3.heap.size (fun _ => 0) := Cnt.new w3 _
  have hu4 : Up w3 (w3.alloc (.cells zero8s 44)) := (Up.refl w3).alloc _
  have hs4 : (w3.alloc (.cells zero8s 44)).heap.size = w3.heap.size + 1 := by simp
  unfold zero8s at hcn hu4 hs4
  generalize w3.alloc (.cells #[Value.int .i64 0, .int .i64 0, .int .i64 0, .int .i64 0, .int .i64 0, .int .i64 0, .int .i64 0, .int .i64 0] 44) = w4 at *
  have HR4 := Lib.hid (hr3.up hu4)
  have HC4 := Lib.hid hcn
  have HU4 := Lib.hid (HU.out.trans hu4)
  have HP4 := Lib.hid (HP.out.up hu4)
  have hgA : ∀ a : Addr, A' = some a → 0 < n' → a.block < w3.heap.size := fun a ha h0 => by
    obtain ⟨b1, off, e, hb1⟩ := hr3.form h0
    rw [ha] at e
    injection e with e
    subst e
    exact hb1
  clear hr3 hcn hu4 HU HP
  go_loopw [21] (fun q wr => ∃ j : Nat, j ≤ n' ∧ q = .int .i64 (j : Int) ∧ Cnt wr w3.heap.size (cntN k (l.take j)) ∧ Keep (fun i => i = w3.heap.size) w4 wr) (fun q _ => n' - (intOf q).toNat)
  case atStart => exact ⟨0, by omega, rfl, HC4.out.ext (fun i _ => (cnt_nil k i).symm), Keep.refl _ w4⟩
  case round =>
    obtain ⟨j, hj, rfl, hct, hkp⟩ := hrel
    by_cases hlt : j < n'
    · obtain ⟨b1, off, rfl, hb1⟩ := HR4.out.form (by omega)
      have hba := hgA _ rfl (by omega)
      simp only at hba
      have hx := hlb (l.getD j 0) (by rw [List.getD, List.getElem?_eq_getElem (by omega)]; exact List.getElem_mem _)
      have hrw := HR4.out.kept hkp (fun a ha => by injection ha with ha; subst ha; simp only; omega)
      have hc := bs_at hrw j hlt
      have hbl : b1 < wr.heap.size := by have := hkp.size; omega
      obtain ⟨xn, hxn⟩ : ∃ xn : Nat, l.getD j 0 = (xn : Int) := ⟨(l.getD j 0).toNat, by omega⟩
      have hst := cnt_step k l j
      rw [hxn] at hc hx hst
      have h1 := rof_is k hk xn (by omega) wr
      obtain ⟨hv0, hv8⟩ := cls_bd (xn : Int) (signN k xn)
      obtain ⟨vn, hvn⟩ : ∃ vn : Nat, clsN (xn : Int) (signN k xn) = (vn : Int) := ⟨(clsN (xn : Int) (signN k xn)).toNat, by omega⟩
      rw [Int.toNat_natCast] at hst
      have hst2 := hst vn (by omega) hvn
      rw [hvn] at h1 hv8
      have hvn8 : vn < 8 := by omega
      have hcb := cnt_bd k (l.take j) vn
      have hlt2 : (l.take j).length ≤ 65536 := by rw [List.length_take]; omega
      have HST := Lib.hid hst2
      have HKP := Lib.hid hkp
      have HCT := Lib.hid hct
      clear hst hst2 hrw hkp hct hvn
      generalize hfv : cntN k (l.take j) vn = fv at *
      have HFV := Lib.hid hfv
      clear hfv
      go_wp2_with (go_at_call 32; (with_reducible refine h1.mono ?_); rintro e w5 ⟨rfl, hu5⟩; have hct2 := HCT.out.up hu5; have hcv := hct2.cell vn hvn8; have hcz := hct2.fz vn hvn8; have hcl := hct2.lt; rw [HFV.out] at hcv; have HCT2 := Lib.hid hct2; clear hct2)
      go_roundw
      case rel =>
        refine ⟨j + 1, by omega, by go_num, (HCT2.out.set vn hvn8 (fv + 1)).ext (fun i _ => ?_), (HKP.out.up hu5).setCell (p := ⟨w3.heap.size, vn, none⟩) (.inl rfl) _⟩
        have := HST.out i
        exact this
      case measure => simp [intOf]; omega
    · have he : j = n' := by omega
      subst he
      have hfull : cntN k (l.take j) = cntN k l := by rw [List.take_of_length_le (by omega)]
      rw [hfull] at hct
      have hrw : Reads wr wr.heap.size 1 A' j (bs l) := by
        rcases Nat.eq_zero_or_pos j with h0 | h0
        · exact ⟨HR4.out.1, fun h => absurd h (by omega)⟩
        · exact HR4.out.kept hkp (fun a ha => by have := hgA a ha h0; omega)
      have hpw : PgAt wr p k := by
        have hcc := HC4.out.cell 0 (by omega)
        exact HP4.out.other hcc (fun h => by have := (hz _ h).2; omega) hkp
      have h1 := count_is p k hk A' j c' l wr hpw hrw hlb hA (by omega) (fun i hi => by have := (hz i hi).2; have := hkp.size; omega)
      have heq := eq_n8 (cntN k l)
      have HRG := Lib.hid hct.range
      have HCT := Lib.hid hct
      have HKP := Lib.hid hkp
      have HPW := Lib.hid hpw
      have HRW := Lib.hid hrw
      clear hct hkp hfull hrw hpw
      have h2 : Calls Try.prog 33 #[pv p, .slice A' j c'] wr.drew _ := count_is p k hk A' j c' l wr.drew (HPW.out.up ((Up.refl wr).drew)) HRW.out hlb hA (by omega) (fun i hi => show i < wr.heap.size by have := (hz i hi).2; have := HKP.out.size; omega)
      have hall : ∀ i, i < 8 → wr.cell? ⟨w3.heap.size, i, none⟩ = some (.int .i64 (cntN k l i)) := HCT.out.cell
      have hgl := HCT.out.lt
      rw [n8_lit (cntN k l)] at h2 heq
      have HC8 := Lib.hid (fun w' (hn : NearP p wr.drew w') => (HCT.out.up ((Up.refl wr).drew)).keep hn (fun h => by have := (hz _ h).2; omega))
      have hv0 := hall 0 (by omega)
      have hv1 := hall 1 (by omega)
      have hv2 := hall 2 (by omega)
      have hv3 := hall 3 (by omega)
      have hv4 := hall 4 (by omega)
      have hv5 := hall 5 (by omega)
      have hv6 := hall 6 (by omega)
      have hv7 := hall 7 (by omega)
      clear hall h1 HRG HCT
      generalize hcf : cntN k l = f at *
      clear hcf
      obtain ⟨F, hF⟩ : ∃ F : Nat → Int, F = f := ⟨f, rfl⟩
      generalize hf0 : f 0 = v0 at hv0 h2 heq
      generalize hf1 : f 1 = v1 at hv1 h2 heq
      generalize hf2 : f 2 = v2 at hv2 h2 heq
      generalize hf3 : f 3 = v3 at hv3 h2 heq
      generalize hf4 : f 4 = v4 at hv4 h2 heq
      generalize hf5 : f 5 = v5 at hv5 h2 heq
      generalize hf6 : f 6 = v6 at hv6 h2 heq
      generalize hf7 : f 7 = v7 at hv7 h2 heq
      go_wp2_with fail
      go_region_held3 (fun w' => w'.cell? ⟨w3.heap.size, 0, none⟩ = some (.int .i64 v0) ∧ w'.cell? ⟨w3.heap.size, 1, none⟩ = some (.int .i64 v1) ∧ w'.cell? ⟨w3.heap.size, 2, none⟩ = some (.int .i64 v2) ∧ w'.cell? ⟨w3.heap.size, 3, none⟩ = some (.int .i64 v3) ∧ w'.cell? ⟨w3.heap.size, 4, none⟩ = some (.int .i64 v4) ∧ w'.cell? ⟨w3.heap.size, 5, none⟩ = some (.int .i64 v5) ∧ w'.cell? ⟨w3.heap.size, 6, none⟩ = some (.int .i64 v6) ∧ w'.cell? ⟨w3.heap.size, 7, none⟩ = some (.int .i64 v7)) (go_keep) (first | (go_at_call 33; (refine h2.mono ?_); rintro e w6 ⟨rfl, hn6⟩; have hct6 := HC8.out w6 hn6; have hx0 := hct6.cell 0 (by omega); have hx1 := hct6.cell 1 (by omega); have hx2 := hct6.cell 2 (by omega); have hx3 := hct6.cell 3 (by omega); have hx4 := hct6.cell 4 (by omega); have hx5 := hct6.cell 5 (by omega); have hx6 := hct6.cell 6 (by omega); have hx7 := hct6.cell 7 (by omega); rw [hf0] at hx0; rw [hf1] at hx1; rw [hf2] at hx2; rw [hf3] at hx3; rw [hf4] at hx4; rw [hf5] at hx5; rw [hf6] at hx6; rw [hf7] at hx7; clear hct6))
      go_wp2
      go_ret
      exact ⟨rfl, ((HU4.out.keep (E := fun i => i = w3.heap.size) HKP.out (fun i hi => by subst hi; omega)).drew.keep hn6 (fun i hi => (hz i hi).1))⟩
end Go.Proofs.Ythdoighlfoinaaa
