/-
  What header's right, Bytes, answer, Positive, Negative, Code, Next and the reference's Bytes, Code, Response compute. No condition.
-/
import Derived.Test.YtockighgdkebaaaDoorBytes
namespace Go.Proofs.YtockighgdkebaaaDoor
open Go.RowKit
set_option linter.unusedVariables false
set_option linter.unusedSimpArgs false

def rightH (t r : Int) : Bool := if t = 2 then decide (r ≤ 1) else decide (t ≤ 8) && decide (r ≤ 2)
def hdr (t q r s : Int) : List Int := [t, q, r, s / 256, s % 256]

set_option maxHeartbeats 800000 in
theorem right_any (t q r s : Int) (w : World) (h0 : 0 ≤ t) (h1 : t ≤ 255) (h2 : 0 ≤ r) (h3 : r ≤ 255) :
    Calls Tryd.prog 26 #[.agg #[.int .u8 t, .int .u8 q, .int .u8 r, .int .u16 s]] w fun e w' => e = .returned (.bool (rightH t r)) ∧ Up w w' := by
  by_cases ht : t = 2
  · subst ht
    go_enter Tryd.func26, Tryd.ntmps26
    go_wp2
    all_goals
      go_ret
      exact ⟨ret_bool (by simp [rightH]), by (repeat (first | with_reducible exact Up.refl _ | with_reducible refine Up.alloc ?_ _ | with_reducible refine Up.drew ?_ | with_reducible refine Up.drewN ?_ _ | with_reducible refine Up.setCell ?_ (by (try simp) <;> omega) _ | with_reducible assumption | with_reducible refine Up.trans ?_ (by assumption)))⟩
  · have hb : (t == 2) = false := by simpa using ht
    have hr : rightH t r = (decide (t ≤ 8) && decide (r ≤ 2)) := by simp [rightH, ht]
    by_cases h9 : t < 9
    all_goals
      go_enter Tryd.func26, Tryd.ntmps26
      go_wp2
      all_goals
        go_ret
        exact ⟨ret_bool (by simp [rightH, ht]; omega), by (repeat (first | with_reducible exact Up.refl _ | with_reducible refine Up.alloc ?_ _ | with_reducible refine Up.drew ?_ | with_reducible refine Up.drewN ?_ _ | with_reducible refine Up.setCell ?_ (by (try simp) <;> omega) _ | with_reducible assumption | with_reducible refine Up.trans ?_ (by assumption)))⟩
theorem right_is {t r : Int} {b : Bool} (h : rightH t r = b) (q s : Int) (w : World) (h0 : 0 ≤ t) (h1 : t ≤ 255) (h2 : 0 ≤ r) (h3 : r ≤ 255) :
    Calls Tryd.prog 26 #[.agg #[.int .u8 t, .int .u8 q, .int .u8 r, .int .u16 s]] w fun e w' => e = .returned (.bool b) ∧ Up w w' := by
  rw [← h]; exact right_any t q r s w h0 h1 h2 h3

theorem quo16 (s : Int) (h0 : 0 ≤ s) (h1 : s ≤ 65535) : IntKind.u16.wrap (s.tdiv 256) % 256 = s / 256 := by
  rw [Int.tdiv_eq_ediv_of_nonneg h0, IntKind.wrap_u16]; omega
theorem wrap8 (s : Int) (h0 : 0 ≤ s) (h1 : s ≤ 65535) : 0 ≤ s / 256 ∧ s / 256 ≤ 255 ∧ 0 ≤ s % 256 ∧ s % 256 ≤ 255 := by omega
/-- new bytes that a call hands back -/
def Made (w w' : World) (A : Option Addr) (c : Nat) (l : List Int) : Prop := w'.ownsRow w.heap.size 5 1 (.slice A l.length c) l.length (bs l) ∧ l.length ≤ c ∧ c ≤ maxLen
theorem made_lit {w W : World} (cs : Array Value) (l : List Int) (h : cs = (bs l).toArray) (hw : w.heap.size ≤ W.heap.size) (hl : l.length ≤ 65536) (g : Nat) (hg : g = W.heap.size) :
    Made w (W.alloc (.cells cs 5)) (some ⟨g, 0, none⟩) l.length l := by
  subst h; subst hg
  refine ⟨?_, Nat.le_refl _, by simp [maxLen]; omega⟩
  have := World.ownsRow_lit (base := w.heap.size) (size := 1) (e := 5) W (bs l).toArray l.length hw (by simp [maxLen]; omega) (by simp [bs])
  simpa using this

set_option maxHeartbeats 800000 in
theorem hbytes_bad (t q r s : Int) (w : World) (h0 : 0 ≤ t) (h1 : t ≤ 255) (h2 : 0 ≤ r) (h3 : r ≤ 255) (h : rightH t r = false) :
    Calls Tryd.prog 13 #[.agg #[.int .u8 t, .int .u8 q, .int .u8 r, .int .u16 s]] w fun e w' => e = .returned (.tuple #[.slice none 0 0, .int .i64 1]) ∧ Up w w' := by
  go_enter Tryd.func13, Tryd.ntmps13
  go_wp2_with fail
  refine (right_is h _ _ _ h0 h1 h2 h3).mono ?_
  rintro e w1 ⟨rfl, hb_w1⟩
  have hu_w1 : Up w w1 := by (repeat (first | with_reducible exact Up.refl _ | with_reducible refine Up.alloc ?_ _ | with_reducible refine Up.drew ?_ | with_reducible refine Up.drewN ?_ _ | with_reducible refine Up.setCell ?_ (by (try simp) <;> omega) _ | with_reducible assumption | with_reducible refine Up.trans ?_ (by assumption)))
  have hz_w1 := Up.size hb_w1
  try simp at hz_w1
  obtain ⟨bd_w1_0, be_w1_0⟩ := hb_w1.at_ (w.heap.size) (by (try simp) <;> omega)
  have zb_w1_0 : w.heap.size < w1.heap.size := by omega
  go_wp2_with fail
  go_ret2
  exact ⟨rfl, by (repeat (first | with_reducible exact Up.refl _ | with_reducible refine Up.alloc ?_ _ | with_reducible refine Up.drew ?_ | with_reducible refine Up.drewN ?_ _ | with_reducible refine Up.setCell ?_ (by (try simp) <;> omega) _ | with_reducible assumption | with_reducible refine Up.trans ?_ (by assumption)))⟩
set_option maxHeartbeats 800000 in
theorem hbytes_good (t q r s : Int) (w : World) (h0 : 0 ≤ t) (h1 : t ≤ 255) (h2 : 0 ≤ r) (h3 : r ≤ 255) (h4 : 0 ≤ s) (h5 : s ≤ 65535) (h : rightH t r = true) :
    Calls Tryd.prog 13 #[.agg #[.int .u8 t, .int .u8 q, .int .u8 r, .int .u16 s]] w fun e w' => ∃ A c, e = .returned (.tuple #[.slice A 5 c, .int .i64 0]) ∧ Made w w' A c (hdr t q r s) ∧ Up w w' := by
  obtain ⟨b0, b1, b2, b3⟩ := wrap8 s h4 h5
  go_enter Tryd.func13, Tryd.ntmps13
  go_wp2_with fail
  refine (right_is h _ _ _ h0 h1 h2 h3).mono ?_
  rintro e w1 ⟨rfl, hb_w1⟩
  have hu_w1 : Up w w1 := by (repeat (first | with_reducible exact Up.refl _ | with_reducible refine Up.alloc ?_ _ | with_reducible refine Up.drew ?_ | with_reducible refine Up.drewN ?_ _ | with_reducible refine Up.setCell ?_ (by (try simp) <;> omega) _ | with_reducible assumption | with_reducible refine Up.trans ?_ (by assumption)))
  have hz_w1 := Up.size hb_w1
  try simp at hz_w1
  obtain ⟨bd_w1_0, be_w1_0⟩ := hb_w1.at_ (w.heap.size) (by (try simp) <;> omega)
  have zb_w1_0 : w.heap.size < w1.heap.size := by omega
  go_wp2_with fail
  go_ret2
  exact ⟨_, _, rfl, made_lit _ (hdr t q r s) (by simp [hdr, bs]) (by omega) (by simp [hdr]) _ rfl, by (repeat (first | with_reducible exact Up.refl _ | with_reducible refine Up.alloc ?_ _ | with_reducible refine Up.drew ?_ | with_reducible refine Up.drewN ?_ _ | with_reducible refine Up.setCell ?_ (by (try simp) <;> omega) _ | with_reducible assumption | with_reducible refine Up.trans ?_ (by assumption)))⟩
set_option maxHeartbeats 800000 in
theorem ref_hbytes_bad (t q r s : Int) (w : World) (h0 : 0 ≤ t) (h1 : t ≤ 255) (h2 : 0 ≤ r) (h3 : r ≤ 255) (h : rightH t r = false) :
    Calls Tryd.prog 14 #[.agg #[.int .u8 t, .int .u8 q, .int .u8 r, .int .u16 s]] w fun e w' => e = .returned (.tuple #[.slice none 0 0, .int .i64 1]) ∧ Up w w' := by
  have hc : 8 < t ∨ (t ≤ 8 ∧ 2 < r) ∨ (t = 2 ∧ r = 2) := by
    by_cases ht : t = 2
    · subst ht; simp [rightH] at h; omega
    · simp [rightH, ht] at h; omega
  rcases hc with h8 | ⟨h8, h9⟩ | ⟨rfl, rfl⟩
  all_goals
    go_enter Tryd.func14, Tryd.ntmps14
    go_wp2
    go_ret2
    exact ⟨rfl, by (repeat (first | with_reducible exact Up.refl _ | with_reducible refine Up.alloc ?_ _ | with_reducible refine Up.drew ?_ | with_reducible refine Up.drewN ?_ _ | with_reducible refine Up.setCell ?_ (by (try simp) <;> omega) _ | with_reducible assumption | with_reducible refine Up.trans ?_ (by assumption)))⟩
set_option maxHeartbeats 800000 in
theorem ref_hbytes_good (t q r s : Int) (w : World) (h0 : 0 ≤ t) (h1 : t ≤ 255) (h2 : 0 ≤ r) (h3 : r ≤ 255) (h4 : 0 ≤ s) (h5 : s ≤ 65535) (h : rightH t r = true) :
    Calls Tryd.prog 14 #[.agg #[.int .u8 t, .int .u8 q, .int .u8 r, .int .u16 s]] w fun e w' => ∃ A c, e = .returned (.tuple #[.slice A 5 c, .int .i64 0]) ∧ Made w w' A c (hdr t q r s) ∧ Up w w' := by
  obtain ⟨b0, b1, b2, b3⟩ := wrap8 s h4 h5
  have hq := quo16 s h4 h5
  have hc : t ≤ 8 ∧ r ≤ 2 ∧ (t = 2 → r ≤ 1) := by
    by_cases ht : t = 2
    · subst ht; simp [rightH] at h; omega
    · simp [rightH, ht] at h; omega
  obtain ⟨c0, c1, c2⟩ := hc
  by_cases ht : t = 2
  · have hr : (r == 2) = false := by simp; have := c2 ht; omega
    subst ht
    go_enter Tryd.func14, Tryd.ntmps14
    go_wp2
    go_ret2
    exact ⟨_, _, rfl, made_lit _ (hdr 2 q r s) (by simp [hdr, bs, hq]) (by simp) (by simp [hdr]) _ (by simp), by (repeat (first | with_reducible exact Up.refl _ | with_reducible refine Up.alloc ?_ _ | with_reducible refine Up.drew ?_ | with_reducible refine Up.drewN ?_ _ | with_reducible refine Up.setCell ?_ (by (try simp) <;> omega) _ | with_reducible assumption | with_reducible refine Up.trans ?_ (by assumption)))⟩
  · have ht : (t == 2) = false := by simpa using ht
    go_enter Tryd.func14, Tryd.ntmps14
    go_wp2
    go_ret2
    exact ⟨_, _, rfl, made_lit _ (hdr t q r s) (by simp [hdr, bs, hq]) (by simp) (by simp [hdr]) _ (by simp), by (repeat (first | with_reducible exact Up.refl _ | with_reducible refine Up.alloc ?_ _ | with_reducible refine Up.drew ?_ | with_reducible refine Up.drewN ?_ _ | with_reducible refine Up.setCell ?_ (by (try simp) <;> omega) _ | with_reducible assumption | with_reducible refine Up.trans ?_ (by assumption)))⟩

def codeOf (e : Int) : Int := if e = 11 then 0 else if e = 6 ∨ e = 8 then 1 else if e = 3 ∨ e = 7 then 3 else 2
theorem codeOf_bd (e : Int) : 0 ≤ codeOf e ∧ codeOf e ≤ 3 := by unfold codeOf; split <;> (try split) <;> (try split) <;> omega
def resp (bad s code : Int) : List Int := hdr 2 0 bad s ++ [code]

set_option maxHeartbeats 800000 in
theorem code_any (e : Int) (w : World) : Calls Tryd.prog 10 #[.int .i64 e] w fun x w' => x = .returned (.int .u8 (codeOf e)) ∧ w = w' := by
  go_enter Tryd.func10, Tryd.ntmps10
  go_wp2
  all_goals
    go_ret
    refine ⟨ret_int ?_, rfl⟩
    simp_all [codeOf]
set_option maxHeartbeats 800000 in
theorem ref_code_any (e : Int) (w : World) : Calls Tryd.prog 11 #[.int .i64 e] w fun x w' => x = .returned (.int .u8 (codeOf e)) ∧ w = w' := by
  go_enter Tryd.func11, Tryd.ntmps11
  go_wp2
  all_goals
    go_ret
    refine ⟨ret_int ?_, rfl⟩
    simp_all [codeOf]
set_option maxHeartbeats 800000 in
theorem answer_any (s b c : Int) (w : World) (h4 : 0 ≤ s) (h5 : s ≤ 65535) :
    Calls Tryd.prog 25 #[.int .u16 s, .int .u8 b, .int .u8 c] w fun e w' => ∃ A k, e = .returned (.slice A 6 k) ∧ Made w w' A k (resp b s c) ∧ Up w w' := by
  obtain ⟨b0, b1, b2, b3⟩ := wrap8 s h4 h5
  go_enter Tryd.func25, Tryd.ntmps25
  go_wp2
  go_ret
  exact ⟨_, _, rfl, made_lit _ (resp b s c) (by simp [resp, hdr, bs]) (by simp) (by simp [resp, hdr]) _ (by simp), by (repeat (first | with_reducible exact Up.refl _ | with_reducible refine Up.alloc ?_ _ | with_reducible refine Up.drew ?_ | with_reducible refine Up.drewN ?_ _ | with_reducible refine Up.setCell ?_ (by (try simp) <;> omega) _ | with_reducible assumption | with_reducible refine Up.trans ?_ (by assumption)))⟩
set_option maxHeartbeats 800000 in
theorem positive_any (s : Int) (w : World) (h4 : 0 ≤ s) (h5 : s ≤ 65535) :
    Calls Tryd.prog 21 #[.int .u16 s] w fun e w' => ∃ A k, e = .returned (.slice A 6 k) ∧ Made w w' A k (resp 0 s 0) ∧ Up w w' := by
  go_enter Tryd.func21, Tryd.ntmps21
  go_wp2_with fail
  refine (answer_any _ _ _ _ h4 h5).mono ?_
  rintro e w1 ⟨A, k, rfl, hm, hu⟩
  go_wp2
  go_ret
  exact ⟨A, k, rfl, hm, hu⟩
set_option maxHeartbeats 800000 in
theorem negative_good (s c : Int) (w : World) (h4 : 0 ≤ s) (h5 : s ≤ 65535) (hc : c ≤ 3) :
    Calls Tryd.prog 19 #[.int .u16 s, .int .u8 c] w fun e w' => ∃ A k, e = .returned (.tuple #[.slice A 6 k, .int .i64 0]) ∧ Made w w' A k (resp 1 s c) ∧ Up w w' := by
  go_enter Tryd.func19, Tryd.ntmps19
  go_wp2_with fail
  refine (answer_any _ _ _ _ h4 h5).mono ?_
  rintro e w1 ⟨A, k, rfl, hm, hu⟩
  go_wp2
  go_ret2
  exact ⟨A, k, rfl, hm, hu⟩
set_option maxHeartbeats 800000 in
theorem negative_bad (s c : Int) (w : World) (hc : 3 < c) :
    Calls Tryd.prog 19 #[.int .u16 s, .int .u8 c] w fun e w' => e = .returned (.tuple #[.slice none 0 0, .int .i64 1]) ∧ w = w' := by
  go_enter Tryd.func19, Tryd.ntmps19
  go_wp2
  go_ret2
  exact ⟨rfl, rfl⟩
set_option maxHeartbeats 800000 in
theorem next_any (s : Int) (w : World) (h4 : 0 ≤ s) (h5 : s ≤ 65535) :
    Calls Tryd.prog 24 #[.int .u16 s] w fun e w' => e = .returned (.int .u16 (if s < 32767 then s + 1 else 0)) ∧ w = w' := by
  go_enter Tryd.func24, Tryd.ntmps24
  go_wp2
  all_goals
    go_ret
    exact ⟨ret_int (by first | rfl | (split <;> first | rfl | omega)), rfl⟩
set_option maxHeartbeats 1600000 in
theorem response_neg (s c : Int) (w : World) (h4 : 0 ≤ s) (h5 : s ≤ 65535) :
    Calls Tryd.prog 20 #[.int .u16 s, .bool false, .int .u8 c] w fun e w' => ∃ A k, e = .returned (.slice A 6 k) ∧ Made w w' A k (resp 1 s c) ∧ Up w w' := by
  obtain ⟨i0, hi, hz0, hz1, hz2⟩ := info_parts info_u8
  go_enter Tryd.func20, Tryd.ntmps20
  go_wp2_with fail
  refine (ref_hbytes_good _ _ _ _ _ (by omega) (by omega) (by omega) (by omega) h4 h5 rfl).mono ?_
  rintro e w1 ⟨A, k, rfl, hm, hu⟩
  have ho : w1.ownsRow w.heap.size 5 1 (.slice A 5 k) 5 (bs (hdr 2 0 0 s)) := hm.1
  obtain ⟨g, cap, e1, hbg, hlt⟩ := ho.form (by decide)
  injection e1 with e1 _ e2
  subst e1
  clear hm e2
  have hc2 : w1.cell? ⟨g, 2, none⟩ = some (.int .u8 0) := ho.cellAt 2 (by decide)
  have hf2 := ho.frozenAt 2
  have hst := (ho.stored 2 (.int .u8 1)).1
  have hus : Up w (w1.setCell ⟨g, 2, none⟩ (.int .u8 1)) := hu.setCell hbg _
  go_wp2_with (at_builtin; refine wpList_app _ rfl (.tmp 19) (.tmp 21) 26 rfl w.heap.size 5 i0 _ 1 1 Tryd.underlying26 hi hz0 hz1 hz2 rfl (by decide) (some ⟨g, 0, none⟩) 5 k _ rfl (own_up hst ((Up.refl _).alloc _)) _ _ 1 1 _ rfl (reads_at _ _ 1 1 _ _ rfl (by simp)) (by simp [Value.oneCell']) (by simp [maxLen]) (by omega) (by have := hus.size; simp at this ⊢; omega) ?_; intro A2 c2 w4 hown4 hg4 hle4 hmx4 hbl4)
  go_ret
  refine ⟨A2, c2, rfl, ⟨?_, hle4, hmx4⟩, (hus.alloc _).past hbl4⟩
  simpa [resp, hdr, bs] using hown4
set_option maxHeartbeats 1600000 in
theorem response_pos (s c : Int) (w : World) (h4 : 0 ≤ s) (h5 : s ≤ 65535) :
    Calls Tryd.prog 20 #[.int .u16 s, .bool true, .int .u8 c] w fun e w' => ∃ A k, e = .returned (.slice A 6 k) ∧ Made w w' A k (resp 0 s 0) ∧ Up w w' := by
  obtain ⟨i0, hi, hz0, hz1, hz2⟩ := info_parts info_u8
  go_enter Tryd.func20, Tryd.ntmps20
  go_wp2_with fail
  refine (ref_hbytes_good _ _ _ _ _ (by omega) (by omega) (by omega) (by omega) h4 h5 rfl).mono ?_
  rintro e w1 ⟨A, k, rfl, hm, hu⟩
  have ho : w1.ownsRow w.heap.size 5 1 (.slice A 5 k) 5 (bs (hdr 2 0 0 s)) := hm.1
  obtain ⟨g, cap, e1, hbg, hlt⟩ := ho.form (by decide)
  injection e1 with e1 _ e2
  subst e1
  clear hm e2
  have hst := ho
  have hus := hu
  go_wp2_with (at_builtin; refine wpList_app _ rfl (.tmp 23) (.tmp 24) 26 rfl w.heap.size 5 i0 _ 1 1 Tryd.underlying26 hi hz0 hz1 hz2 rfl (by decide) (some ⟨g, 0, none⟩) 5 k _ rfl (own_up hst ((Up.refl _).alloc _)) _ _ 1 1 _ rfl (reads_at _ _ 1 1 _ _ rfl (by simp)) (by simp [Value.oneCell']) (by simp [maxLen]) (by omega) (by have := hus.size; simp at this ⊢; omega) ?_; intro A2 c2 w4 hown4 hg4 hle4 hmx4 hbl4)
  go_ret
  refine ⟨A2, c2, rfl, ⟨?_, hle4, hmx4⟩, (hus.alloc _).past hbl4⟩
  simpa [resp, hdr, bs] using hown4
end Go.Proofs.YtockighgdkebaaaDoor
