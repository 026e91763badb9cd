/-
  bytes.IndexByte: whether a byte is there; the law's pick, the reference's Model. Conditions: bounds.
-/
import Derived.Test.YtfknakcjhlonoaaQAwk
import Derived.Test.YtfknakcjhlonoaaMix
import Derived.Lib.BytesEntry
namespace Go.Proofs.Ytfknakcjhlonoaa
open Go.RowKit
set_option linter.unusedVariables false
set_option linter.unusedSimpArgs false

theorem ib_has : ∀ (l : List UInt8) (c : UInt8), 0 ≤ Lib.indexByte l c ↔ c ∈ l
  | [], c => by simp [Lib.indexByte]
  | b :: l, c => by
    have ih := ib_has l c
    have hg := Lib.indexByte_ge l c
    unfold Lib.indexByte
    by_cases hb : (b == c) = true
    · rw [if_pos hb]
      have : b = c := by simpa using hb
      subst this
      simp
    · rw [if_neg hb]
      have hne : ¬ c = b := fun e => hb (by simp [e])
      by_cases h1 : (Lib.indexByte l c == -1) = true
      · rw [if_pos h1]
        have h2 : Lib.indexByte l c = -1 := by simpa using h1
        rw [h2] at ih
        constructor
        · intro h; omega
        · intro h
          rcases List.mem_cons.1 h with h | h
          · exact absurd h hne
          · have := ih.2 h; omega
      · rw [if_neg h1]
        have h2 : ¬ Lib.indexByte l c = -1 := by simpa using h1
        constructor
        · intro _
          exact List.mem_cons_of_mem _ (ih.1 (by omega))
        · intro _; omega
theorem byte_mem {l : List Int} (h : BL l) {c : Int} (hc : 0 ≤ c ∧ c ≤ 255) : c.toNat.toUInt8 ∈ Lib.bytesOf l ↔ c ∈ l := by
  unfold Lib.bytesOf
  constructor
  · intro hm
    obtain ⟨x, hx, he⟩ := List.mem_map.1 hm
    have hb := h x hx
    have h2 : x.toNat = c.toNat := by
      have := congrArg UInt8.toNat he
      simp at this
      omega
    have : x = c := by omega
    rw [← this]; exact hx
  · intro hm
    exact List.mem_map.2 ⟨c, hm, rfl⟩
set_option maxRecDepth 100000 in
set_option maxHeartbeats 1000000 in
theorem idx_is {B n c : Nat} {A : Option Addr} {l : List Int} {cv : Int} {w : World} (h : Sl B w A n c l) (hA : ∀ p, A = some p → ∃ b off, p = ⟨b, off, none⟩) (hcv : 0 ≤ cv ∧ cv ≤ 255) :
    Calls Try.prog 28 #[.slice A n c, .int .u8 cv] w fun e w' => ∃ i : Int, e = .returned (.int .i64 i) ∧ (0 ≤ i ↔ cv ∈ l) ∧ -1 ≤ i ∧ w' = w := by
  cases n with
  | zero =>
    have hl : l = [] := List.eq_nil_of_length_eq_zero h.len
    subst hl
    have hr : (Extern.BytealgIndexByte.indexByte #[.slice A 0 c, .int .u8 cv]).run Try.prog w = .ok (.int .i64 (-1)) w := by
      cases A with
      | none => exact Lib.run_indexByteNil w 0 c cv
      | some a =>
        obtain ⟨b, off, rfl⟩ := hA a rfl
        exact Lib.run_indexByteSlice (P := Try.prog) w b off 0 c [] rfl (fun i hi => by omega) cv
    clear h hA
    go_enter Try.func28, Try.ntmps28
    go_wp2
    rw [run_callFunc_extern Try.func35 (by kernel_rfl) (by kernel_rfl) (by kernel_rfl) (e := Extern.BytealgIndexByte.indexByte) (by kernel_rfl), hr]
    simp only [Result.andThen]
    rw [Oper.upon_value]
    go_wp2
    go_ret
    exact ⟨-1, rfl, by simp, by omega, rfl⟩
  | succ m =>
    obtain ⟨b, off, rfl, hb⟩ := h.form (by omega)
    have hr := Lib.run_indexByteSlice (P := Try.prog) w b off (m + 1) c l h.len (fun i hi => h.cell hi) cv
    have h1 := ib_has (Lib.bytesOf l) cv.toNat.toUInt8
    have h2 := byte_mem h.bytes hcv
    have h3 := Lib.indexByte_ge (Lib.bytesOf l) cv.toNat.toUInt8
    generalize Lib.indexByte (Lib.bytesOf l) cv.toNat.toUInt8 = i at hr h1 h3
    go_enter Try.func28, Try.ntmps28
    go_wp2
    rw [run_callFunc_extern Try.func35 (by kernel_rfl) (by kernel_rfl) (by kernel_rfl) (e := Extern.BytealgIndexByte.indexByte) (by kernel_rfl), hr]
    simp only [Result.andThen]
    rw [Oper.upon_value]
    go_wp2
    go_ret
    exact ⟨i, rfl, h1.trans h2, h3, rfl⟩
theorem cut_sl2 {A : Option Addr} {n c : Nat} {l : List Int} {w : World} (hr : Reads w w.heap.size 1 A n (bs l)) (hb : BL l) (hn : n ≤ c) (hc : c ≤ maxLen) (m : Nat) (hm : m ≤ 65536) :
    Calls Try.prog 15 #[.slice A n c, .int .i64 (m : Int)] w fun e w' => ∃ A' c', e = .returned (.slice A' (l.take m).length c') ∧ Sl w.heap.size w' A' (l.take m).length c' (l.take m) ∧ (∀ p, A' = some p → ∃ b off, p = ⟨b, off, none⟩) ∧ Up w w' := by
  refine (cut_any A n c l (m : Int) w hr hn hc (by omega) (by omega)).mono ?_
  rintro e w' ⟨A', n', c', rfl, h1, h2, h3, h4, h5⟩
  rw [Int.toNat_natCast] at h2
  have hl : (l.take m).length = n' := by simpa [bs] using h2.1
  rw [hl]
  refine ⟨A', c', rfl, Sl.of_own h2 h3 h4 ?_ (hb.take m), ?_, h5⟩
  · rw [← hl, List.length_take]
    omega
  · rintro p rfl
    rcases h2.2 with ⟨e1, _⟩ | ⟨g, cap, cur, e1, _, _⟩
    · cases e1
    · injection e1 with e1 _ _
      injection e1 with e1
      exact ⟨g, 0, e1⟩
def pgOf (n : Int) : Int := if n % 7 = 0 then 37 else if n % 7 = 1 then 273 else if n % 7 = 2 then 297 else if n % 7 = 3 then 500 else if n % 7 = 4 then 1047 else if n % 7 = 5 then 1140 else 37
def pgs : Array Value := #[.int .i64 37, .int .i64 273, .int .i64 297, .int .i64 500, .int .i64 1047, .int .i64 1140]
set_option maxRecDepth 100000 in
set_option maxHeartbeats 3200000 in
theorem qpick_is (n : Int) (hn : 0 ≤ n ∧ n ≤ 255) (w : World) :
    Calls Try.prog 6 #[.int .u8 n] w fun e w' => ∃ pv k, e = .returned (.tuple #[pv, .int .i64 k]) ∧ PgV w' pv k ∧ (0 ≤ k ∧ k ≤ 65535) ∧ Up w w' := by
  obtain ⟨h0, h1⟩ := hn
  have hmod : n.tmod 7 = n % 7 := Int.tmod_eq_emod_of_nonneg h0
  by_cases h6 : n % 7 = 6
  · have hm : n.tmod 7 = 6 := by omega
    clear h6 hmod
    go_enter Try.func6, Try.ntmps6
    go_wp2_with fail
    go_ret2
    exact ⟨_, _, rfl, .inl ⟨rfl, rfl⟩, by omega, by (repeat (first | with_reducible exact Up.refl _ | with_reducible refine Up.alloc ?_ _ | with_reducible refine Up.drew ?_ | with_reducible refine Up.drewN ?_ _ | with_reducible refine Up.setCell ?_ (by (try simp) <;> omega) _ | with_reducible assumption | with_reducible refine Up.trans ?_ (by assumption)))⟩
  · obtain ⟨j, hj, hm, k, hk, hkk⟩ : ∃ j : Nat, j < 6 ∧ n.tmod 7 = (j : Int) ∧ ∃ k, pgs[j]? = some (.int .i64 k) ∧ isPg k := by
      rcases (show n % 7 = 0 ∨ n % 7 = 1 ∨ n % 7 = 2 ∨ n % 7 = 3 ∨ n % 7 = 4 ∨ n % 7 = 5 by omega) with h | h | h | h | h | h
      · exact ⟨0, by omega, by omega, 37, rfl, .inl rfl⟩
      · exact ⟨1, by omega, by omega, 273, rfl, .inr (.inl rfl)⟩
      · exact ⟨2, by omega, by omega, 297, rfl, .inr (.inr (.inl rfl))⟩
      · exact ⟨3, by omega, by omega, 500, rfl, .inr (.inr (.inr (.inl rfl)))⟩
      · exact ⟨4, by omega, by omega, 1047, rfl, .inr (.inr (.inr (.inr (.inl rfl))))⟩
      · exact ⟨5, by omega, by omega, 1140, rfl, .inr (.inr (.inr (.inr (.inr rfl))))⟩
    have hjI : (j : Int) < 6 := by omega
    have hj6 : ((j : Int) == 6) = false := by simp; omega
    have hcell : (w.alloc (.cells #[.int .i64 37, .int .i64 273, .int .i64 297, .int .i64 500, .int .i64 1047, .int .i64 1140] 3)).cell? ⟨w.heap.size, j, none⟩ = some (.int .i64 k) := (World.cell?_alloc_new ..).trans hk
    have hzz : w.heap.size < (w.alloc (.cells #[.int .i64 37, .int .i64 273, .int .i64 297, .int .i64 500, .int .i64 1047, .int .i64 1140] 3)).heap.size := by simp
    have HKK := Lib.hid hkk
    have hkb : Hid (0 ≤ k ∧ k ≤ 65535) := by rcases hkk with rfl | rfl | rfl | rfl | rfl | rfl <;> exact ⟨by omega, by omega⟩
    clear h6 hmod hk hkk
    go_enter Try.func6, Try.ntmps6
    go_wp2_with fail
    refine (qnew_is k HKK.out _).mono ?_
    rintro e w2 ⟨b, rfl, hp, hu⟩
    obtain ⟨kc, -⟩ := hu.at_ w.heap.size hzz
    have c2 := (kc j).trans hcell
    have z2 := cell_lt c2
    have HP := Lib.hid hp
    have HU := Lib.hid hu
    clear hp hu kc hcell hzz
    go_wp2_with fail
    refine wp_region_mix (NS := []) [] rfl (by kernel_rfl) (by kernel_rfl) (by simp) (by simp) ?_
    repeat (first
      | (refine mix_skip rfl rfl ?_; simp only [Act.put, List.setIfInBounds_toArray, List.set_cons_succ, List.set_cons_zero])
      | (refine mix_q rfl rfl rfl (by kernel_rfl) rfl rfl rfl ?_
         apply Exists.intro
         refine ⟨fun Wm => ?_, ?_⟩
         · simp only [fin]
           skip
           intro K hK
           go_wp2_with (fail)
           refine hK _ _ ?_ ?_ ?_
           · (repeat (first | with_reducible exact Up.refl _ | with_reducible refine Up.alloc ?_ _ | with_reducible refine Up.drew ?_ | with_reducible refine Up.drewN ?_ _ | with_reducible refine Up.setCell ?_ (by (try simp) <;> omega) _ | with_reducible assumption | with_reducible refine Up.trans ?_ (by assumption)))
           · rfl
           · exact tmps_at rfl
         simp only [Act.put, List.setIfInBounds_toArray, List.set_cons_succ, List.set_cons_zero]))
    refine mix_nil ?_
    intro w3 hb_w3
    simp only [fin]
    have hu_w3 : Up w2 w3 := by (repeat (first | with_reducible exact Up.refl _ | with_reducible refine Up.alloc ?_ _ | with_reducible refine Up.drew ?_ | with_reducible refine Up.drewN ?_ _ | with_reducible refine Up.setCell ?_ (by (try simp) <;> omega) _ | with_reducible assumption | with_reducible refine Up.trans ?_ (by assumption)))
    have hz_w3 := Up.size hb_w3
    try simp at hz_w3
    obtain ⟨bc_w3_0, bf_w3_0⟩ := hu_w3.at_ (w.heap.size) (by omega)
    have zb_w3_0 : w.heap.size < w3.heap.size := by omega
    go_wp2_with fail
    go_ret2
    exact ⟨_, _, rfl, HP.out.up hb_w3, hkb.out, (((Up.refl w).alloc _).trans HU.out).trans hb_w3⟩
set_option maxRecDepth 100000 in
set_option maxHeartbeats 1600000 in
theorem rmodel_is (m rows cols : Int) (w : World) (h : isMod m rows cols) : Calls Try.prog 7 #[.int .i64 m] w fun e w' => e = .returned (.tuple #[.agg #[.int .i64 rows, .int .i64 cols], .bool true]) ∧ Up w w' := by
  rcases h with ⟨rfl, rfl, rfl⟩ | ⟨rfl, rfl, rfl⟩ | ⟨rfl, rfl, rfl⟩ | ⟨rfl, rfl, rfl⟩
  · go_enter Try.func7, Try.ntmps7
    go_wp2
    exact bodyPost_ret (v := .tuple #[.agg #[.int .i64 24, .int .i64 80], .bool true]) (by simp [results, Try.results7, go_sem]) rfl ⟨rfl, by (repeat (first | with_reducible exact Up.refl _ | with_reducible refine Up.alloc ?_ _ | with_reducible refine Up.drew ?_ | with_reducible refine Up.drewN ?_ _ | with_reducible refine Up.setCell ?_ (by (try simp) <;> omega) _ | with_reducible assumption | with_reducible refine Up.trans ?_ (by assumption)))⟩
  · go_enter Try.func7, Try.ntmps7
    go_wp2
    exact bodyPost_ret (v := .tuple #[.agg #[.int .i64 32, .int .i64 80], .bool true]) (by simp [results, Try.results7, go_sem]) rfl ⟨rfl, by (repeat (first | with_reducible exact Up.refl _ | with_reducible refine Up.alloc ?_ _ | with_reducible refine Up.drew ?_ | with_reducible refine Up.drewN ?_ _ | with_reducible refine Up.setCell ?_ (by (try simp) <;> omega) _ | with_reducible assumption | with_reducible refine Up.trans ?_ (by assumption)))⟩
  · go_enter Try.func7, Try.ntmps7
    go_wp2
    exact bodyPost_ret (v := .tuple #[.agg #[.int .i64 43, .int .i64 80], .bool true]) (by simp [results, Try.results7, go_sem]) rfl ⟨rfl, by (repeat (first | with_reducible exact Up.refl _ | with_reducible refine Up.alloc ?_ _ | with_reducible refine Up.drew ?_ | with_reducible refine Up.drewN ?_ _ | with_reducible refine Up.setCell ?_ (by (try simp) <;> omega) _ | with_reducible assumption | with_reducible refine Up.trans ?_ (by assumption)))⟩
  · go_enter Try.func7, Try.ntmps7
    go_wp2
    exact bodyPost_ret (v := .tuple #[.agg #[.int .i64 27, .int .i64 132], .bool true]) (by simp [results, Try.results7, go_sem]) rfl ⟨rfl, by (repeat (first | with_reducible exact Up.refl _ | with_reducible refine Up.alloc ?_ _ | with_reducible refine Up.drew ?_ | with_reducible refine Up.drewN ?_ _ | with_reducible refine Up.setCell ?_ (by (try simp) <;> omega) _ | with_reducible assumption | with_reducible refine Up.trans ?_ (by assumption)))⟩
end Go.Proofs.Ytfknakcjhlonoaa
