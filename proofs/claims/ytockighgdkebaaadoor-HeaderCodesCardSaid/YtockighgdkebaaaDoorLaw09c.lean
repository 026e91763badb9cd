/-
  The walk of HeaderCodes: whatever the header and the bytes, it returns true, where the table of names lies as the program lays it.
-/
import Derived.Test.YtockighgdkebaaaDoorLaw09a
import Derived.Test.YtockighgdkebaaaDoorFlip
namespace Go.Proofs.YtockighgdkebaaaDoor
open Go.RowKit
set_option linter.unusedVariables false
set_option linter.unusedSimpArgs false

theorem five_or (l : List Int) : l.length < 5 ∨ ∃ a0 a1 a2 a3 a4 r, l = a0 :: a1 :: a2 :: a3 :: a4 :: r := by
  match l with
  | [] => exact .inl (by simp)
  | [_] => exact .inl (by simp)
  | [_, _] => exact .inl (by simp)
  | [_, _, _] => exact .inl (by simp)
  | [_, _, _, _] => exact .inl (by simp)
  | a0 :: a1 :: a2 :: a3 :: a4 :: r => exact .inr ⟨a0, a1, a2, a3, a4, r, rfl⟩

set_option maxRecDepth 100000 in
set_option maxHeartbeats 6400000 in
theorem law_codes (t q r s : Int) (A : Option Addr) (n c : Nat) (l0 : List Int) (w : World) (t0 : 0 ≤ t) (t1 : t ≤ 255) (q0 : 0 ≤ q) (q1 : q ≤ 255) (r0 : 0 ≤ r) (r1 : r ≤ 255) (s0 : 0 ≤ s) (s1 : s ≤ 65535)
    (hl : l0.length = n) (hn : n ≤ c) (hc : c ≤ maxLen) (hw : ∀ x ∈ l0, 0 ≤ x ∧ x ≤ 255) (hr : Reads w w.heap.size 1 A n (l0.map (Value.int .u8))) (hT : TabH w) :
    Calls Tryd.prog 4 #[.agg #[.int .u8 t, .int .u8 q, .int .u8 r, .int .u16 s], .slice A n c] w fun x w' => x = .returned (.bool true) ∧ Up w w' := by
  have hs : 256 * (s / 256) + s % 256 = s := by omega
  have hwh5 : (0 ≤ t ∧ t ≤ 255) ∧ (0 ≤ q ∧ q ≤ 255) ∧ (0 ≤ r ∧ r ≤ 255) ∧ (0 ≤ s / 256 ∧ s / 256 ≤ 255) ∧ (0 ≤ s % 256 ∧ s % 256 ≤ 255) := by omega
  have hwh : ∀ x ∈ hdr t q r s, 0 ≤ x ∧ x ≤ 255 := by simpa [hdr] using hwh5
  cases hh : rightH t r
  · go_enter Tryd.func4, Tryd.ntmps4
    go_wp2_with fail
    refine (awake09 _ (hT.up (by (repeat (first | with_reducible exact Up.refl _ | with_reducible refine Up.alloc ?_ _ | with_reducible refine Up.drew ?_ | with_reducible refine Up.drewN ?_ _ | with_reducible refine Up.setCell ?_ (by (try simp) <;> omega) _ | with_reducible assumption | with_reducible refine Up.trans ?_ (by assumption)))))).mono ?_
    rintro e w1 ⟨rfl, hb_w1⟩
    have hu_w1 : Up w w1 := by (repeat (first | with_reducible exact Up.refl _ | with_reducible refine Up.alloc ?_ _ | with_reducible refine Up.drew ?_ | with_reducible refine Up.drewN ?_ _ | with_reducible refine Up.setCell ?_ (by (try simp) <;> omega) _ | with_reducible assumption | with_reducible refine Up.trans ?_ (by assumption)))
    have hz_w1 := Up.size hb_w1
    try simp at hz_w1
    obtain ⟨bd_w1_0, be_w1_0⟩ := hb_w1.at_ (w.heap.size) (by (try simp) <;> omega)
    have zb_w1_0 : w.heap.size < w1.heap.size := by omega
    go_wp2_with fail
    refine (hbytes_bad _ _ _ _ _ t0 t1 r0 r1 hh).mono ?_
    rintro e w2 ⟨rfl, hb_w2⟩
    have hu_w2 : Up w1 w2 := by (repeat (first | with_reducible exact Up.refl _ | with_reducible refine Up.alloc ?_ _ | with_reducible refine Up.drew ?_ | with_reducible refine Up.drewN ?_ _ | with_reducible refine Up.setCell ?_ (by (try simp) <;> omega) _ | with_reducible assumption | with_reducible refine Up.trans ?_ (by assumption)))
    have hz_w2 := Up.size hb_w2
    try simp at hz_w2
    obtain ⟨bc_w2_0, bf_w2_0⟩ := hu_w2.at_ (w.heap.size) (by omega)
    have zb_w2_0 : w.heap.size < w2.heap.size := by omega
    go_wp2_with fail
    refine (ref_hbytes_bad _ _ _ _ _ t0 t1 r0 r1 hh).mono ?_
    rintro e w3 ⟨rfl, hb_w3⟩
    have hu_w3 : Up w2 w3 := by (repeat (first | with_reducible exact Up.refl _ | with_reducible refine Up.alloc ?_ _ | with_reducible refine Up.drew ?_ | with_reducible refine Up.drewN ?_ _ | with_reducible refine Up.setCell ?_ (by (try simp) <;> omega) _ | with_reducible assumption | with_reducible refine Up.trans ?_ (by assumption)))
    have hz_w3 := Up.size hb_w3
    try simp at hz_w3
    obtain ⟨bc_w3_0, bf_w3_0⟩ := hu_w3.at_ (w.heap.size) (by omega)
    have zb_w3_0 : w.heap.size < w3.heap.size := by omega
    go_wp2_with fail
    refine (same_any _ _ _ _ _ _ _ _ [] [] _ (Reads.none_ (B := 0)) (Reads.none_ (B := 0)) (by simp) (by simp)).mono ?_
    rintro x w' ⟨rfl, rfl⟩
    rw [same_res]
    go_wp2_with fail
    refine (cut_any _ _ _ l0 _ _ (hr.up (by (repeat (first | with_reducible exact Up.refl _ | with_reducible refine Up.alloc ?_ _ | with_reducible refine Up.drew ?_ | with_reducible refine Up.drewN ?_ _ | with_reducible refine Up.setCell ?_ (by (try simp) <;> omega) _ | with_reducible assumption | with_reducible refine Up.trans ?_ (by assumption))))) hn hc (by omega) (by omega)).mono ?_
    rintro x wa ⟨A1, n1, c1, rfl, hn1, ho1, hle1, hmx1, u4⟩
    have h30 : n1 ≤ 30 := by omega
    clear hn1
    have hw1 : ∀ z ∈ l0.take (30 : Int).toNat, 0 ≤ z ∧ z ≤ 255 := fun z hz => hw z (List.mem_of_mem_take hz)
    generalize l0.take (30 : Int).toNat = l1 at *
    have hrp := Reads.of_own ho1
    have hl1 : l1.length = n1 := by simpa [bs] using hrp.1
    rcases five_or l1 with hk | ⟨a0, a1, a2, a3, a4, l, rfl⟩
    · have hk : n1 < 5 := by omega
      go_wp2_with fail
      refine (copy_any _ _ _ _ _ hrp (by omega)).mono ?_
      rintro x v1 ⟨Am, cm, rfl, hom, hlem, hmxm, um⟩
      have hrm := Reads.of_own hom
      have hbd := own_bd hom
      have hzm := um.size
      have hrp1 := hrp.up um
      go_wp2_with fail
      refine (hparse_short _ _ _ _ hk).mono ?_
      rintro x v2 ⟨rfl, uv2⟩
      have hz2 := uv2.size
      go_wp2_with fail
      refine (ref_hparse_short _ _ _ _ hk).mono ?_
      rintro x v3 ⟨rfl, uv3⟩
      obtain ⟨cb, cd⟩ := uv3.at_ v2.heap.size (by (try simp) <;> omega)
      have hz3 := uv3.size
      simp at hz3
      have zb3 : v2.heap.size < v3.heap.size := by omega
      go_wp2_with fail
      refine (flip_any _ _ _ _ _ _ (own_up hom (by (repeat (first | with_reducible exact Up.refl _ | with_reducible refine Up.alloc ?_ _ | with_reducible refine Up.drew ?_ | with_reducible refine Up.drewN ?_ _ | with_reducible refine Up.setCell ?_ (by (try simp) <;> omega) _ | with_reducible assumption | with_reducible refine Up.trans ?_ (by assumption))))) (by omega)).mono ?_
      rintro x v4 ⟨rfl, hfl⟩
      obtain ⟨bf1, bg1⟩ := grown_at hfl v2.heap.size (by (try simp) <;> omega) (fun e => by have := (hbd _ e).2; omega)
      obtain ⟨bf2, bg2⟩ := grown_at hfl v3.heap.size (by (try simp) <;> omega) (fun e => by have := (hbd _ e).2; omega)
      have uf : Up w v4 := Up.grown (show Up w _ by (repeat (first | with_reducible exact Up.refl _ | with_reducible refine Up.alloc ?_ _ | with_reducible refine Up.drew ?_ | with_reducible refine Up.drewN ?_ _ | with_reducible refine Up.setCell ?_ (by (try simp) <;> omega) _ | with_reducible assumption | with_reducible refine Up.trans ?_ (by assumption)))) hfl (fun g e => by have h1 := (hbd g e).1; (try simp at h1); have := (show Up w wa by (repeat (first | with_reducible exact Up.refl _ | with_reducible refine Up.alloc ?_ _ | with_reducible refine Up.drew ?_ | with_reducible refine Up.drewN ?_ _ | with_reducible refine Up.setCell ?_ (by (try simp) <;> omega) _ | with_reducible assumption | with_reducible refine Up.trans ?_ (by assumption)))).size; omega)
      go_wp2_with fail
      refine (same_any _ _ _ _ _ _ _ _ [] [] _ (Reads.none_ (B := 0)) (Reads.none_ (B := 0)) (by simp) (by simp)).mono ?_
      rintro x w' ⟨rfl, rfl⟩
      rw [same_res]
      go_wp2
      go_ret
      exact ⟨rfl, uf⟩
    · have hwl := hw1
      cases hg : rightH a0 a2
      · go_wp2_with fail
        refine (copy_any _ _ _ _ _ hrp (by omega)).mono ?_
        rintro x v1 ⟨Am, cm, rfl, hom, hlem, hmxm, um⟩
        have hrm := Reads.of_own hom
        have hbd := own_bd hom
        have hzm := um.size
        have hrp1 := hrp.up um
        go_wp2_with fail
        refine (hparse_bad _ _ _ _ _ _ _ _ _ _ hrm hwl (by omega) hg).mono ?_
        rintro x v2 ⟨rfl, uv2⟩
        have hz2 := uv2.size
        go_wp2_with fail
        refine (ref_hparse_bad _ _ _ _ _ _ _ _ _ _ (hrp1.up (by (repeat (first | with_reducible exact Up.refl _ | with_reducible refine Up.alloc ?_ _ | with_reducible refine Up.drew ?_ | with_reducible refine Up.drewN ?_ _ | with_reducible refine Up.setCell ?_ (by (try simp) <;> omega) _ | with_reducible assumption | with_reducible refine Up.trans ?_ (by assumption))))) hwl (by omega) hg).mono ?_
        rintro x v3 ⟨rfl, uv3⟩
        obtain ⟨cb, cd⟩ := uv3.at_ v2.heap.size (by (try simp) <;> omega)
        have hz3 := uv3.size
        simp at hz3
        have zb3 : v2.heap.size < v3.heap.size := by omega
        go_wp2_with fail
        refine (flip_any _ _ _ _ _ _ (own_up hom (by (repeat (first | with_reducible exact Up.refl _ | with_reducible refine Up.alloc ?_ _ | with_reducible refine Up.drew ?_ | with_reducible refine Up.drewN ?_ _ | with_reducible refine Up.setCell ?_ (by (try simp) <;> omega) _ | with_reducible assumption | with_reducible refine Up.trans ?_ (by assumption))))) (by omega)).mono ?_
        rintro x v4 ⟨rfl, hfl⟩
        obtain ⟨bf1, bg1⟩ := grown_at hfl v2.heap.size (by (try simp) <;> omega) (fun e => by have := (hbd _ e).2; omega)
        obtain ⟨bf2, bg2⟩ := grown_at hfl v3.heap.size (by (try simp) <;> omega) (fun e => by have := (hbd _ e).2; omega)
        have uf : Up w v4 := Up.grown (show Up w _ by (repeat (first | with_reducible exact Up.refl _ | with_reducible refine Up.alloc ?_ _ | with_reducible refine Up.drew ?_ | with_reducible refine Up.drewN ?_ _ | with_reducible refine Up.setCell ?_ (by (try simp) <;> omega) _ | with_reducible assumption | with_reducible refine Up.trans ?_ (by assumption)))) hfl (fun g e => by have h1 := (hbd g e).1; (try simp at h1); have := (show Up w wa by (repeat (first | with_reducible exact Up.refl _ | with_reducible refine Up.alloc ?_ _ | with_reducible refine Up.drew ?_ | with_reducible refine Up.drewN ?_ _ | with_reducible refine Up.setCell ?_ (by (try simp) <;> omega) _ | with_reducible assumption | with_reducible refine Up.trans ?_ (by assumption)))).size; omega)
        go_wp2_with fail
        refine (same_any _ _ _ _ _ _ _ _ [] [] _ (Reads.none_ (B := 0)) (Reads.none_ (B := 0)) (by simp) (by simp)).mono ?_
        rintro x w' ⟨rfl, rfl⟩
        rw [same_res]
        go_wp2
        go_ret
        exact ⟨rfl, uf⟩
      · go_wp2_with fail
        refine (copy_any _ _ _ _ _ hrp (by omega)).mono ?_
        rintro x v1 ⟨Am, cm, rfl, hom, hlem, hmxm, um⟩
        have hrm := Reads.of_own hom
        have hbd := own_bd hom
        have hzm := um.size
        have hrp1 := hrp.up um
        go_wp2_with fail
        refine (hparse_good _ _ _ _ _ _ _ _ _ _ hrm hwl (by omega) hlem hmxm hg).mono ?_
        rintro x v2 ⟨A2, k2, rfl, ho2, hle2, hmx2, uv2⟩
        have hz2 := uv2.size
        go_wp2_with fail
        refine (ref_hparse_good _ _ _ _ _ _ _ _ _ _ (hrp1.up (by (repeat (first | with_reducible exact Up.refl _ | with_reducible refine Up.alloc ?_ _ | with_reducible refine Up.drew ?_ | with_reducible refine Up.drewN ?_ _ | with_reducible refine Up.setCell ?_ (by (try simp) <;> omega) _ | with_reducible assumption | with_reducible refine Up.trans ?_ (by assumption))))) hwl (by omega) hle1 hmx1 hg).mono ?_
        rintro x v3 ⟨A3, k3, rfl, ho3, hle3, hmx3, uv3⟩
        obtain ⟨cb, cd⟩ := uv3.at_ v2.heap.size (by (try simp) <;> omega)
        have hz3 := uv3.size
        simp at hz3
        have zb3 : v2.heap.size < v3.heap.size := by omega
        have ho2' := own_up ho2 (show Up v2 v3 by (repeat (first | with_reducible exact Up.refl _ | with_reducible refine Up.alloc ?_ _ | with_reducible refine Up.drew ?_ | with_reducible refine Up.drewN ?_ _ | with_reducible refine Up.setCell ?_ (by (try simp) <;> omega) _ | with_reducible assumption | with_reducible refine Up.trans ?_ (by assumption))))
        have hwr : ∀ z ∈ l, 0 ≤ z ∧ z ≤ 255 := fun z hz => hwl z (by simp [hz])
        go_wp2_with fail
        refine (flip_any _ _ _ _ _ _ (own_up hom (by (repeat (first | with_reducible exact Up.refl _ | with_reducible refine Up.alloc ?_ _ | with_reducible refine Up.drew ?_ | with_reducible refine Up.drewN ?_ _ | with_reducible refine Up.setCell ?_ (by (try simp) <;> omega) _ | with_reducible assumption | with_reducible refine Up.trans ?_ (by assumption))))) (by omega)).mono ?_
        rintro x v4 ⟨rfl, hfl⟩
        have hr2f := Reads.of_own (own_grown (own_up ho2' ((Up.refl _).alloc _)) hfl (fun g e e' => by have := (own_bd ho2' g e).1; have := (hbd g e').2; omega))
        have hr3f := Reads.of_own (own_grown (own_up ho3 ((Up.refl _).alloc _)) hfl (fun g e e' => by have h1 := (own_bd ho3 g e).1; have := (hbd g e').2; simp at h1; omega))
        obtain ⟨bf1, bg1⟩ := grown_at hfl v2.heap.size (by (try simp) <;> omega) (fun e => by have := (hbd _ e).2; omega)
        obtain ⟨bf2, bg2⟩ := grown_at hfl v3.heap.size (by (try simp) <;> omega) (fun e => by have := (hbd _ e).2; omega)
        have uf : Up w v4 := Up.grown (show Up w _ by (repeat (first | with_reducible exact Up.refl _ | with_reducible refine Up.alloc ?_ _ | with_reducible refine Up.drew ?_ | with_reducible refine Up.drewN ?_ _ | with_reducible refine Up.setCell ?_ (by (try simp) <;> omega) _ | with_reducible assumption | with_reducible refine Up.trans ?_ (by assumption)))) hfl (fun g e => by have h1 := (hbd g e).1; (try simp at h1); have := (show Up w wa by (repeat (first | with_reducible exact Up.refl _ | with_reducible refine Up.alloc ?_ _ | with_reducible refine Up.drew ?_ | with_reducible refine Up.drewN ?_ _ | with_reducible refine Up.setCell ?_ (by (try simp) <;> omega) _ | with_reducible assumption | with_reducible refine Up.trans ?_ (by assumption)))).size; omega)
        go_wp2_with fail
        refine (same_any _ _ _ _ _ _ _ _ l l _ hr2f hr3f hwr hwr).mono ?_
        rintro x w' ⟨rfl, rfl⟩
        rw [same_res]
        go_wp2
        go_ret
        exact ⟨rfl, uf⟩
  · go_enter Tryd.func4, Tryd.ntmps4
    go_wp2_with fail
    refine (awake09 _ (hT.up (by (repeat (first | with_reducible exact Up.refl _ | with_reducible refine Up.alloc ?_ _ | with_reducible refine Up.drew ?_ | with_reducible refine Up.drewN ?_ _ | with_reducible refine Up.setCell ?_ (by (try simp) <;> omega) _ | with_reducible assumption | with_reducible refine Up.trans ?_ (by assumption)))))).mono ?_
    rintro e w1 ⟨rfl, hb_w1⟩
    have hu_w1 : Up w w1 := by (repeat (first | with_reducible exact Up.refl _ | with_reducible refine Up.alloc ?_ _ | with_reducible refine Up.drew ?_ | with_reducible refine Up.drewN ?_ _ | with_reducible refine Up.setCell ?_ (by (try simp) <;> omega) _ | with_reducible assumption | with_reducible refine Up.trans ?_ (by assumption)))
    have hz_w1 := Up.size hb_w1
    try simp at hz_w1
    obtain ⟨bd_w1_0, be_w1_0⟩ := hb_w1.at_ (w.heap.size) (by (try simp) <;> omega)
    have zb_w1_0 : w.heap.size < w1.heap.size := by omega
    go_wp2_with fail
    refine (hbytes_good _ _ _ _ _ t0 t1 r0 r1 s0 s1 hh).mono ?_
    rintro x w2 ⟨A2, c2, rfl, hm2, u2⟩
    have hz2 := u2.size
    obtain ⟨bc2, bf2⟩ := u2.at_ w.heap.size (by omega)
    go_wp2_with fail
    refine (ref_hbytes_good _ _ _ _ _ t0 t1 r0 r1 s0 s1 hh).mono ?_
    rintro x w3 ⟨A3, c3, rfl, hm3, u3⟩
    have hz3 := u3.size
    obtain ⟨bc3, bf3⟩ := u3.at_ w.heap.size (by omega)
    have hr2 : Reads w2 w2.heap.size 1 A2 5 (bs (hdr t q r s)) := hm2.reads
    have hr3 : Reads w3 w3.heap.size 1 A3 5 (bs (hdr t q r s)) := hm3.reads
    have ho2 : w2.ownsRow _ 5 1 (.slice A2 5 c2) 5 (bs (hdr t q r s)) := hm2.1
    go_wp2_with fail
    refine (same_any _ _ _ _ _ _ _ _ _ _ _ (hr2.up u3) hr3 hwh hwh).mono ?_
    rintro x w' ⟨rfl, rfl⟩
    rw [same_res]
    go_wp2_with fail
    refine (cut_any _ _ _ l0 _ _ (hr.up (by (repeat (first | with_reducible exact Up.refl _ | with_reducible refine Up.alloc ?_ _ | with_reducible refine Up.drew ?_ | with_reducible refine Up.drewN ?_ _ | with_reducible refine Up.setCell ?_ (by (try simp) <;> omega) _ | with_reducible assumption | with_reducible refine Up.trans ?_ (by assumption))))) hn hc (by omega) (by omega)).mono ?_
    rintro x w4 ⟨A1, n1, c1, rfl, hn1, ho1, hle1, hmx1, u4⟩
    have h30 : n1 ≤ 30 := by omega
    clear hn1
    have hw1 : ∀ z ∈ l0.take (30 : Int).toNat, 0 ≤ z ∧ z ≤ 255 := fun z hz => hw z (List.mem_of_mem_take hz)
    generalize l0.take (30 : Int).toNat = l1 at *
    have hr1 := Reads.of_own ho1
    have hl1 : l1.length = n1 := by simpa [bs] using hr1.1
    obtain ⟨bc4, bf4⟩ := u4.at_ w.heap.size (by omega)
    have hz4 := u4.size
    obtain ⟨i1, hi1, hy0, hy1, hy2⟩ := info_parts info_u8
    go_wp2_with (at_builtin; refine wpList_app _ rfl (.tmp 45) (.tmp 46) 26 rfl w1.heap.size 5 i1 _ 1 1 Tryd.underlying26 hi1 hy0 hy1 hy2 rfl (by decide) A2 5 c2 _ rfl (own_up ho2 (by (repeat (first | with_reducible exact Up.refl _ | with_reducible refine Up.alloc ?_ _ | with_reducible refine Up.drew ?_ | with_reducible refine Up.drewN ?_ _ | with_reducible refine Up.setCell ?_ (by (try simp) <;> omega) _ | with_reducible assumption | with_reducible refine Up.trans ?_ (by assumption))))) _ A1 n1 c1 _ rfl hr1 (one_u8 _) (by simp [maxLen]; omega) (by omega) (by omega) ?_; intro A7 c7 w7 hown7 hg7 hle7 hmx7 hbl7)
    have u17 : Up w1 w7 := (show Up w1 w4 by (repeat (first | with_reducible exact Up.refl _ | with_reducible refine Up.alloc ?_ _ | with_reducible refine Up.drew ?_ | with_reducible refine Up.drewN ?_ _ | with_reducible refine Up.setCell ?_ (by (try simp) <;> omega) _ | with_reducible assumption | with_reducible refine Up.trans ?_ (by assumption)))).past hbl7
    have hz7 : w4.heap.size ≤ w7.heap.size := hbl7.size
    have ho17 := own_grown ho1 hg7 (fun g e e' => by have h1 := (own_bd ho1 g e).1; have h2 := (own_bd ho2 g e').2; omega)
    obtain ⟨bc7, bf7⟩ := u17.at_ w.heap.size (by omega)
    have hcat : bs (hdr t q r s) ++ bs l1 = bs (t :: q :: r :: (s / 256) :: (s % 256) :: l1) := by simp [bs, hdr]
    rw [hcat] at hown7
    have hr7 := Reads.of_own hown7
    refine (hparse_good _ _ _ _ _ _ _ _ l1 _ hr7 (by simpa using ⟨hwh5.1, hwh5.2.1, hwh5.2.2.1, hwh5.2.2.2.1, hwh5.2.2.2.2, hw1⟩) (by omega) hle7 hmx7 hh).mono ?_
    rintro x wa ⟨A8, c8, rfl, ho8, hle8, hmx8, u8⟩
    rw [hs]
    have hza := u8.size
    obtain ⟨bc8, bf8⟩ := u8.at_ w.heap.size (by omega)
    have zb8 : w.heap.size < wa.heap.size := by omega
    have hn8 : 5 + n1 - 5 = n1 := by omega
    rw [hn8] at ho8 hle8
    rw [hn8]
    have hr8 := Reads.of_own ho8
    have hrp0 := (Reads.of_own ho17).up u8
    go_wp2_with fail
    refine (same_any _ _ _ _ _ _ _ _ l1 l1 _ (hr8.up ((Up.refl _).alloc _)) (hrp0.up ((Up.refl _).alloc _)) hw1 hw1).mono ?_
    rintro x w' ⟨rfl, rfl⟩
    rw [same_res]
    have hrp := hrp0.up ((Up.refl wa).alloc (.cells #[.int .u8 t, .int .u8 q, .int .u8 r, .int .u16 s] 29))
    rcases five_or l1 with hk | ⟨a0, a1, a2, a3, a4, l, rfl⟩
    · have hk : n1 < 5 := by omega
      go_wp2_with fail
      refine (copy_any _ _ _ _ _ hrp (by omega)).mono ?_
      rintro x v1 ⟨Am, cm, rfl, hom, hlem, hmxm, um⟩
      have hrm := Reads.of_own hom
      have hbd := own_bd hom
      have hzm := um.size
      have hrp1 := hrp.up um
      go_wp2_with fail
      refine (hparse_short _ _ _ _ hk).mono ?_
      rintro x v2 ⟨rfl, uv2⟩
      have hz2 := uv2.size
      go_wp2_with fail
      refine (ref_hparse_short _ _ _ _ hk).mono ?_
      rintro x v3 ⟨rfl, uv3⟩
      obtain ⟨cb, cd⟩ := uv3.at_ v2.heap.size (by (try simp) <;> omega)
      have hz3 := uv3.size
      simp at hz3
      have zb3 : v2.heap.size < v3.heap.size := by omega
      go_wp2_with fail
      refine (flip_any _ _ _ _ _ _ (own_up hom (by (repeat (first | with_reducible exact Up.refl _ | with_reducible refine Up.alloc ?_ _ | with_reducible refine Up.drew ?_ | with_reducible refine Up.drewN ?_ _ | with_reducible refine Up.setCell ?_ (by (try simp) <;> omega) _ | with_reducible assumption | with_reducible refine Up.trans ?_ (by assumption))))) (by omega)).mono ?_
      rintro x v4 ⟨rfl, hfl⟩
      obtain ⟨bf1, bg1⟩ := grown_at hfl v2.heap.size (by (try simp) <;> omega) (fun e => by have := (hbd _ e).2; omega)
      obtain ⟨bf2, bg2⟩ := grown_at hfl v3.heap.size (by (try simp) <;> omega) (fun e => by have := (hbd _ e).2; omega)
      have uf : Up w v4 := Up.grown (show Up w _ by (repeat (first | with_reducible exact Up.refl _ | with_reducible refine Up.alloc ?_ _ | with_reducible refine Up.drew ?_ | with_reducible refine Up.drewN ?_ _ | with_reducible refine Up.setCell ?_ (by (try simp) <;> omega) _ | with_reducible assumption | with_reducible refine Up.trans ?_ (by assumption)))) hfl (fun g e => by have h1 := (hbd g e).1; (try simp at h1); have := (show Up w wa by (repeat (first | with_reducible exact Up.refl _ | with_reducible refine Up.alloc ?_ _ | with_reducible refine Up.drew ?_ | with_reducible refine Up.drewN ?_ _ | with_reducible refine Up.setCell ?_ (by (try simp) <;> omega) _ | with_reducible assumption | with_reducible refine Up.trans ?_ (by assumption)))).size; omega)
      go_wp2_with fail
      refine (same_any _ _ _ _ _ _ _ _ [] [] _ (Reads.none_ (B := 0)) (Reads.none_ (B := 0)) (by simp) (by simp)).mono ?_
      rintro x w' ⟨rfl, rfl⟩
      rw [same_res]
      go_wp2
      go_ret
      exact ⟨rfl, uf⟩
    · have hwl := hw1
      cases hg : rightH a0 a2
      · go_wp2_with fail
        refine (copy_any _ _ _ _ _ hrp (by omega)).mono ?_
        rintro x v1 ⟨Am, cm, rfl, hom, hlem, hmxm, um⟩
        have hrm := Reads.of_own hom
        have hbd := own_bd hom
        have hzm := um.size
        have hrp1 := hrp.up um
        go_wp2_with fail
        refine (hparse_bad _ _ _ _ _ _ _ _ _ _ hrm hwl (by omega) hg).mono ?_
        rintro x v2 ⟨rfl, uv2⟩
        have hz2 := uv2.size
        go_wp2_with fail
        refine (ref_hparse_bad _ _ _ _ _ _ _ _ _ _ (hrp1.up (by (repeat (first | with_reducible exact Up.refl _ | with_reducible refine Up.alloc ?_ _ | with_reducible refine Up.drew ?_ | with_reducible refine Up.drewN ?_ _ | with_reducible refine Up.setCell ?_ (by (try simp) <;> omega) _ | with_reducible assumption | with_reducible refine Up.trans ?_ (by assumption))))) hwl (by omega) hg).mono ?_
        rintro x v3 ⟨rfl, uv3⟩
        obtain ⟨cb, cd⟩ := uv3.at_ v2.heap.size (by (try simp) <;> omega)
        have hz3 := uv3.size
        simp at hz3
        have zb3 : v2.heap.size < v3.heap.size := by omega
        go_wp2_with fail
        refine (flip_any _ _ _ _ _ _ (own_up hom (by (repeat (first | with_reducible exact Up.refl _ | with_reducible refine Up.alloc ?_ _ | with_reducible refine Up.drew ?_ | with_reducible refine Up.drewN ?_ _ | with_reducible refine Up.setCell ?_ (by (try simp) <;> omega) _ | with_reducible assumption | with_reducible refine Up.trans ?_ (by assumption))))) (by omega)).mono ?_
        rintro x v4 ⟨rfl, hfl⟩
        obtain ⟨bf1, bg1⟩ := grown_at hfl v2.heap.size (by (try simp) <;> omega) (fun e => by have := (hbd _ e).2; omega)
        obtain ⟨bf2, bg2⟩ := grown_at hfl v3.heap.size (by (try simp) <;> omega) (fun e => by have := (hbd _ e).2; omega)
        have uf : Up w v4 := Up.grown (show Up w _ by (repeat (first | with_reducible exact Up.refl _ | with_reducible refine Up.alloc ?_ _ | with_reducible refine Up.drew ?_ | with_reducible refine Up.drewN ?_ _ | with_reducible refine Up.setCell ?_ (by (try simp) <;> omega) _ | with_reducible assumption | with_reducible refine Up.trans ?_ (by assumption)))) hfl (fun g e => by have h1 := (hbd g e).1; (try simp at h1); have := (show Up w wa by (repeat (first | with_reducible exact Up.refl _ | with_reducible refine Up.alloc ?_ _ | with_reducible refine Up.drew ?_ | with_reducible refine Up.drewN ?_ _ | with_reducible refine Up.setCell ?_ (by (try simp) <;> omega) _ | with_reducible assumption | with_reducible refine Up.trans ?_ (by assumption)))).size; omega)
        go_wp2_with fail
        refine (same_any _ _ _ _ _ _ _ _ [] [] _ (Reads.none_ (B := 0)) (Reads.none_ (B := 0)) (by simp) (by simp)).mono ?_
        rintro x w' ⟨rfl, rfl⟩
        rw [same_res]
        go_wp2
        go_ret
        exact ⟨rfl, uf⟩
      · go_wp2_with fail
        refine (copy_any _ _ _ _ _ hrp (by omega)).mono ?_
        rintro x v1 ⟨Am, cm, rfl, hom, hlem, hmxm, um⟩
        have hrm := Reads.of_own hom
        have hbd := own_bd hom
        have hzm := um.size
        have hrp1 := hrp.up um
        go_wp2_with fail
        refine (hparse_good _ _ _ _ _ _ _ _ _ _ hrm hwl (by omega) hlem hmxm hg).mono ?_
        rintro x v2 ⟨A2, k2, rfl, ho2, hle2, hmx2, uv2⟩
        have hz2 := uv2.size
        go_wp2_with fail
        refine (ref_hparse_good _ _ _ _ _ _ _ _ _ _ (hrp1.up (by (repeat (first | with_reducible exact Up.refl _ | with_reducible refine Up.alloc ?_ _ | with_reducible refine Up.drew ?_ | with_reducible refine Up.drewN ?_ _ | with_reducible refine Up.setCell ?_ (by (try simp) <;> omega) _ | with_reducible assumption | with_reducible refine Up.trans ?_ (by assumption))))) hwl (by omega) hle1 hmx1 hg).mono ?_
        rintro x v3 ⟨A3, k3, rfl, ho3, hle3, hmx3, uv3⟩
        obtain ⟨cb, cd⟩ := uv3.at_ v2.heap.size (by (try simp) <;> omega)
        have hz3 := uv3.size
        simp at hz3
        have zb3 : v2.heap.size < v3.heap.size := by omega
        have ho2' := own_up ho2 (show Up v2 v3 by (repeat (first | with_reducible exact Up.refl _ | with_reducible refine Up.alloc ?_ _ | with_reducible refine Up.drew ?_ | with_reducible refine Up.drewN ?_ _ | with_reducible refine Up.setCell ?_ (by (try simp) <;> omega) _ | with_reducible assumption | with_reducible refine Up.trans ?_ (by assumption))))
        have hwr : ∀ z ∈ l, 0 ≤ z ∧ z ≤ 255 := fun z hz => hwl z (by simp [hz])
        go_wp2_with fail
        refine (flip_any _ _ _ _ _ _ (own_up hom (by (repeat (first | with_reducible exact Up.refl _ | with_reducible refine Up.alloc ?_ _ | with_reducible refine Up.drew ?_ | with_reducible refine Up.drewN ?_ _ | with_reducible refine Up.setCell ?_ (by (try simp) <;> omega) _ | with_reducible assumption | with_reducible refine Up.trans ?_ (by assumption))))) (by omega)).mono ?_
        rintro x v4 ⟨rfl, hfl⟩
        have hr2f := Reads.of_own (own_grown (own_up ho2' ((Up.refl _).alloc _)) hfl (fun g e e' => by have := (own_bd ho2' g e).1; have := (hbd g e').2; omega))
        have hr3f := Reads.of_own (own_grown (own_up ho3 ((Up.refl _).alloc _)) hfl (fun g e e' => by have h1 := (own_bd ho3 g e).1; have := (hbd g e').2; simp at h1; omega))
        obtain ⟨bf1, bg1⟩ := grown_at hfl v2.heap.size (by (try simp) <;> omega) (fun e => by have := (hbd _ e).2; omega)
        obtain ⟨bf2, bg2⟩ := grown_at hfl v3.heap.size (by (try simp) <;> omega) (fun e => by have := (hbd _ e).2; omega)
        have uf : Up w v4 := Up.grown (show Up w _ by (repeat (first | with_reducible exact Up.refl _ | with_reducible refine Up.alloc ?_ _ | with_reducible refine Up.drew ?_ | with_reducible refine Up.drewN ?_ _ | with_reducible refine Up.setCell ?_ (by (try simp) <;> omega) _ | with_reducible assumption | with_reducible refine Up.trans ?_ (by assumption)))) hfl (fun g e => by have h1 := (hbd g e).1; (try simp at h1); have := (show Up w wa by (repeat (first | with_reducible exact Up.refl _ | with_reducible refine Up.alloc ?_ _ | with_reducible refine Up.drew ?_ | with_reducible refine Up.drewN ?_ _ | with_reducible refine Up.setCell ?_ (by (try simp) <;> omega) _ | with_reducible assumption | with_reducible refine Up.trans ?_ (by assumption)))).size; omega)
        go_wp2_with fail
        refine (same_any _ _ _ _ _ _ _ _ l l _ hr2f hr3f hwr hwr).mono ?_
        rintro x w' ⟨rfl, rfl⟩
        rw [same_res]
        go_wp2
        go_ret
        exact ⟨rfl, uf⟩
end Go.Proofs.YtockighgdkebaaaDoor
