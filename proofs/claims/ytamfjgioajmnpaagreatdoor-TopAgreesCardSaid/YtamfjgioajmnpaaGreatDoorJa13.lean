/-
New bytes that a call hands back. No condition.
What addr's and the reference's Unsix, Encode, Decode and Model compute. No condition.
What addr's and the reference's Model, Encode, Decode compute. No condition.
order's Is; the scanner's addr, character. No condition but the slice's own reach.
The scanner's addr, text. No condition but the slice's own reach.
What the extended attribute's functions compute (program and reference): Check, Right, Apply. No condition.
What attr's Apply and the reference's Apply and Six compute. No condition.
-/
import Derived.Test.YtamfjgioajmnpaaGreatDoorJa1
import Derived.Test.YtamfjgioajmnpaaGreatDoorJa3
import Derived.Test.YtamfjgioajmnpaaGreatDoorJa12
namespace Go.Proofs.YtamfjgioajmnpaaGreatDoor
open Go.RowKit
set_option linter.unusedVariables false

def Made (w w' : World) (A : Option Addr) (c : Nat) (l : List Int) : Prop := w'.ownsRow w.heap.size 5 1 (.slice A l.length c) l.length (bs l) ∧ l.length ≤ c ∧ c ≤ maxLen
theorem made_lit {w W : World} (cs : Array Value) (l : List Int) (h : cs = (bs l).toArray) (hw : w.heap.size ≤ W.heap.size) (hl : l.length ≤ 65536) (g : Nat) (hg : g = W.heap.size) :
    Made w (W.alloc (.cells cs 5)) (some ⟨g, 0, none⟩) l.length l := by
  subst h; subst hg
  refine ⟨?_, Nat.le_refl _, by simp [maxLen]; omega⟩
  have := World.ownsRow_lit (base := w.heap.size) (size := 1) (e := 5) W (bs l).toArray l.length hw (by simp [maxLen]; omega) (by simp [bs])
  simpa using this
theorem Made.reads {w w' : World} {A : Option Addr} {c : Nat} {l : List Int} (h : Made w w' A c l) : Reads w' w'.heap.size 1 A l.length (bs l) := Reads.of_own h.1
theorem twoM {w : World} {B n b off : Nat} {a0 a1 : Int} {l : List Int} (hr : Reads w B 1 (some ⟨b, off, none⟩) n (bs (a0 :: a1 :: l))) :
    b < B ∧ w.cell? ⟨b, off, none⟩ = some (.int .u8 a0) ∧ w.cell? ⟨b, off + 1, none⟩ = some (.int .u8 a1) := by
  have h1 := hr.1
  simp [bs] at h1
  obtain ⟨b', off', e, hb, hc⟩ := hr.2 (by omega)
  injection e with e
  injection e with e1 e2 _
  subst e1; subst e2
  exact ⟨hb, hc 0 _ rfl, hc 1 _ rfl⟩
end Go.Proofs.YtamfjgioajmnpaaGreatDoor
namespace Go.Proofs.YtamfjgioajmnpaaGreatDoor
open Go.RowKit
set_option linter.unusedVariables false
set_option linter.unusedSimpArgs false

theorem sixOf_modD (n : Int) : sixOf (n % 64) = sixOf n := by unfold sixOf; rw [Int.emod_emod_of_dvd _ (by decide)]
/-- the number of a code -/
def unsixOf (b : Int) : Int := match (List.range 64).find? (fun n : Nat => sixOf (n : Int) == b) with
  | some n => n
  | none => b % 64
theorem find_hit {p : Nat → Bool} {j m : Nat} (hj : j < m) (hp : p j = true) (hno : ∀ t, t < j → p t = false) : (List.range m).find? p = some j := by
  rw [List.find?_range_eq_some]
  exact ⟨hp, List.mem_range.2 hj, fun t ht => by simp [hno t ht]⟩
theorem unsix_hit (j : Nat) (b : Int) (hj : j < 64) (h : sixOf j = b) (hno : ∀ t : Nat, t < j → sixOf t ≠ b) : unsixOf b = j := by
  unfold unsixOf
  rw [find_hit hj (by simpa using h) (fun t ht => by simpa using hno t ht)]
theorem unsix_miss (b : Int) (hno : ∀ t : Nat, t < 64 → sixOf t ≠ b) : unsixOf b = b % 64 := by
  unfold unsixOf
  have : (List.range 64).find? (fun n : Nat => sixOf (n : Int) == b) = none := by
    rw [List.find?_eq_none]
    intro t ht
    have := hno t (by simpa using ht)
    simpa using this
  rw [this]
theorem unsix_bd (b : Int) : 0 ≤ unsixOf b ∧ unsixOf b ≤ 63 := by
  unfold unsixOf
  split
  · rename_i n hn
    have := List.mem_range.1 (List.mem_of_find?_eq_some hn)
    omega
  · omega

set_option maxHeartbeats 800000 in
theorem unsix_any (b : Int) (w : World) (h0 : 0 ≤ b) (h1 : b ≤ 255) :
    Calls Tryz.prog 428 #[.int .u8 b] w fun e w' => e = .returned (.int .i64 (unsixOf b)) ∧ w = w' := by
  have hand : bits .and .u8 b 63 = b % 64 := by
    rw [u8_and _ _ h0 (by omega) (by decide) (by decide), show (63 : Int).toNat = 63 from rfl, nat_mask6]
    omega
  go_enter Tryz.func428, Tryz.ntmps428
  go_wp2
  go_loop [4] (fun i => ∃ j : Nat, j ≤ 64 ∧ i = .int .i64 (j : Int) ∧ ∀ t : Nat, t < j → sixOf t ≠ b) (fun i => 64 - (intOf i).toNat)
  case atStart => exact ⟨0, by omega, rfl, by omega⟩
  case round =>
    obtain ⟨j, hj, rfl, hno⟩ := hrel
    have HN := Lib.hid hno
    clear hno
    by_cases hlt : j < 64
    · cases hb : (sixOf (j : Int) == b)
      · go_wp2_with (go_at_call 307; refine (six_any _ _).mono ?_; rintro e w' ⟨rfl, rfl⟩)
        go_round
        case rel =>
          refine ⟨j + 1, by omega, by go_num, fun t ht => ?_⟩
          rcases Nat.lt_or_ge t j with h | h
          · exact HN.out t h
          · obtain rfl : t = j := by omega
            simpa using hb
        case measure => simp [intOf]; omega
      · go_wp2_with (go_at_call 307; refine (six_any _ _).mono ?_; rintro e w' ⟨rfl, rfl⟩)
        go_ret
        exact ⟨ret_int (unsix_hit j b hlt (by simpa using hb) HN.out).symm, rfl⟩
    · obtain rfl : j = 64 := by omega
      go_wp2
      go_ret
      exact ⟨ret_int (by rw [unsix_miss b HN.out]), rfl⟩

end Go.Proofs.YtamfjgioajmnpaaGreatDoor
namespace Go.Proofs.YtamfjgioajmnpaaGreatDoor
open Go.RowKit
set_option linter.unusedVariables false
set_option linter.unusedSimpArgs false

def bitsB (b : Int) : Prop := b = 12 ∨ b = 14 ∨ b = 16
def mostOf (b : Int) : Int := if b = 12 then 4095 else if b = 14 then 16383 else 65535
def encL (b n : Int) : List Int := if b = 12 then [sixOf (n / 64), sixOf n] else [n / 256, n % 256]
theorem encL_len (b n : Int) : (encL b n).length = 2 := by unfold encL; split <;> rfl

set_option maxHeartbeats 800000 in
theorem encode_addr (b n : Int) (w : World) (h : bitsB b) (hn : n < 0 ∨ mostOf b < n) :
    Calls Tryz.prog 261 #[.int .i64 b, .int .i64 n] w fun e w' => e = .returned (.tuple #[.slice none 0 0, .int .i64 9]) ∧ w = w' := by
  rcases (show n < 0 ∨ (0 ≤ n ∧ mostOf b < n) by omega) with hn | ⟨hn0, hn⟩
  · rcases h with rfl | rfl | rfl
    all_goals
      go_enter Tryz.func261, Tryz.ntmps261
      go_wp2
      go_ret2
      exact ⟨rfl, rfl⟩
  · rcases h with rfl | rfl | rfl
    all_goals
      simp [mostOf] at hn
      go_enter Tryz.func261, Tryz.ntmps261
      go_wp2
      go_ret2
      exact ⟨rfl, rfl⟩
set_option maxHeartbeats 800000 in
theorem encode_ok (b n : Int) (w : World) (h : bitsB b) (hn0 : 0 ≤ n) (hn : n ≤ mostOf b) :
    Calls Tryz.prog 261 #[.int .i64 b, .int .i64 n] w fun e w' => ∃ A c, e = .returned (.tuple #[.slice A 2 c, .int .i64 0]) ∧ Made w w' A c (encL b n) ∧ Up w w' := by
  have hm := sixOf_modD n
  rcases h with rfl | rfl | rfl
  · simp [mostOf] at hn
    go_enter Tryz.func261, Tryz.ntmps261
    go_wp2_with (go_at_call 307; refine (six_any _ _).mono ?_; rintro e w' ⟨rfl, rfl⟩)
    go_ret2
    exact ⟨_, _, rfl, made_lit _ (encL 12 n) (by simp [encL, bs, hm]) (by simp) (by simp [encL]) _ rfl, by (repeat (first | with_reducible exact Up.refl _ | with_reducible refine Up.alloc ?_ _ | with_reducible refine Up.drew ?_ | with_reducible refine Up.drewN ?_ _ | with_reducible refine Up.setCell ?_ (by (try simp) <;> omega) _ | with_reducible assumption | with_reducible refine Up.trans ?_ (by assumption)))⟩
  · simp [mostOf] at hn
    go_enter Tryz.func261, Tryz.ntmps261
    go_wp2
    go_ret2
    exact ⟨_, _, rfl, made_lit _ (encL 14 n) (by simp [encL, bs]; try omega) (by simp) (by simp [encL]) _ rfl, by (repeat (first | with_reducible exact Up.refl _ | with_reducible refine Up.alloc ?_ _ | with_reducible refine Up.drew ?_ | with_reducible refine Up.drewN ?_ _ | with_reducible refine Up.setCell ?_ (by (try simp) <;> omega) _ | with_reducible assumption | with_reducible refine Up.trans ?_ (by assumption)))⟩
  · simp [mostOf] at hn
    go_enter Tryz.func261, Tryz.ntmps261
    go_wp2
    go_ret2
    exact ⟨_, _, rfl, made_lit _ (encL 16 n) (by simp [encL, bs]; try omega) (by simp) (by simp [encL]) _ rfl, by (repeat (first | with_reducible exact Up.refl _ | with_reducible refine Up.alloc ?_ _ | with_reducible refine Up.drew ?_ | with_reducible refine Up.drewN ?_ _ | with_reducible refine Up.setCell ?_ (by (try simp) <;> omega) _ | with_reducible assumption | with_reducible refine Up.trans ?_ (by assumption)))⟩

theorem wraps_62 (n : Int) (h0 : 0 ≤ n) (h1 : n < 2 ^ 62) : IntKind.i64.wrap n = n := by
  have h2 : (2 : Int) ^ 62 = 4611686018427387904 := by decide
  rw [h2] at h1
  exact IntWalk.i64_in n ⟨by omega, by omega⟩
theorem or64a (a b : Int) (h0 : 0 ≤ a) (h1 : a ≤ 255) (h2 : 0 ≤ b) (h3 : b ≤ 255) : bits .or .i64 (a * 256) b = 256 * a + b := by
  rw [bits_join .i64 62 (by decide) wraps_62 8 (a * 256) b (by omega) (by omega) (by omega) h2 (by omega) (by omega)]
  omega
theorem or64b (a b : Int) (h0 : 0 ≤ a) (h1 : a ≤ 63) (h2 : 0 ≤ b) (h3 : b ≤ 63) : bits .or .i64 (a * 64) b = 64 * a + b := by
  rw [bits_join .i64 62 (by decide) wraps_62 6 (a * 64) b (by omega) (by omega) (by omega) h2 (by omega) (by omega)]
  omega

def decN (b a0 a1 : Int) : Int := if b = 16 ∨ a0 < 64 then 256 * a0 + a1 else if 128 ≤ a0 ∧ a0 < 192 then 0 else 64 * unsixOf a0 + unsixOf a1
def decE (b a0 : Int) : Int := if b = 16 ∨ a0 < 64 then 0 else if 128 ≤ a0 ∧ a0 < 192 then 9 else 0
set_option maxHeartbeats 3200000 in
theorem decode_ok (b : Int) (A : Option Addr) (n c : Nat) (a0 a1 : Int) (l : List Int) (w : World) (h : bitsB b) (hr : Reads w w.heap.size 1 A n (bs (a0 :: a1 :: l))) (hw : ∀ x ∈ a0 :: a1 :: l, 0 ≤ x ∧ x ≤ 255) (hn : n ≤ 65536) :
    Calls Tryz.prog 422 #[.int .i64 b, .slice A n c] w fun e w' => e = .returned (.tuple #[.int .i64 (decN b a0 a1), .int .i64 (decE b a0)]) ∧ Up w w' := by
  have hlen : l.length + 2 = n := by have := hr.1; simp [bs] at this; omega
  obtain ⟨b0, off, rfl, _⟩ := hr.form (by omega)
  obtain ⟨hb, k0, k1⟩ := twoM hr
  have x0 := hw a0 (by simp)
  have x1 := hw a1 (by simp)
  have ho1 := or64a a0 a1 x0.1 x0.2 x1.1 x1.2
  have hu0 := unsix_bd a0
  have hu1 := unsix_bd a1
  have ho2 := or64b (unsixOf a0) (unsixOf a1) hu0.1 hu0.2 hu1.1 hu1.2
  have q0 : (0 : Int) < (n : Int) := by omega
  have q1 : (1 : Int) < (n : Int) := by omega
  have q2 : (2 : Int) ≤ (n : Int) := by omega
  clear hlen hw hr
  by_cases h16 : b = 16
  · subst h16
    simp only [decN, decE, true_or, if_true]
    go_enter Tryz.func422, Tryz.ntmps422
    go_wp2_with fail
    refine wp_region_up_lit (by kernel_rfl) (by kernel_rfl) ?_
    repeat (go_big_quiet_step (fail))
    refine wpQuiet_nil ?_
    rintro w1 ⟨W_w1, hw_w1⟩
    have hb_w1 : Up _ w1 := hw_w1 ▸ up_upOf _ _
    clear hw_w1 W_w1
    have hu_w1 : Up w w1 := by (repeat (first | with_reducible exact Up.refl _ | with_reducible refine Up.alloc ?_ _ | with_reducible refine Up.drew ?_ | with_reducible refine Up.drewN ?_ _ | with_reducible refine Up.setCell ?_ (by (try simp) <;> omega) _ | with_reducible assumption | with_reducible refine Up.trans ?_ (by assumption)))
    have hz_w1 := Up.size hb_w1
    try simp at hz_w1
    obtain ⟨bd_w1_0, be_w1_0⟩ := hb_w1.at_ (b0) (by (try simp) <;> omega)
    have zb_w1_0 : b0 < w1.heap.size := by omega
    go_wp2_with fail
    go_wp2
    go_ret2
    exact ⟨rfl, by (repeat (first | with_reducible exact Up.refl _ | with_reducible refine Up.alloc ?_ _ | with_reducible refine Up.drew ?_ | with_reducible refine Up.drewN ?_ _ | with_reducible refine Up.setCell ?_ (by (try simp) <;> omega) _ | with_reducible assumption | with_reducible refine Up.trans ?_ (by assumption)))⟩
  have hs : b = 12 ∨ b = 14 := by unfold bitsB at h; omega
  by_cases hp : a0 < 64
  · simp only [decN, decE, hp, or_true, if_true]
    have z : a0 / 64 = 0 := by omega
    rcases hs with rfl | rfl
    all_goals
      go_enter Tryz.func422, Tryz.ntmps422
      go_wp2_with fail
      refine wp_region_up_lit (by kernel_rfl) (by kernel_rfl) ?_
      repeat (go_big_quiet_step (fail))
      refine wpQuiet_nil ?_
      rintro w1 ⟨W_w1, hw_w1⟩
      have hb_w1 : Up _ w1 := hw_w1 ▸ up_upOf _ _
      clear hw_w1 W_w1
      have hu_w1 : Up w w1 := by (repeat (first | with_reducible exact Up.refl _ | with_reducible refine Up.alloc ?_ _ | with_reducible refine Up.drew ?_ | with_reducible refine Up.drewN ?_ _ | with_reducible refine Up.setCell ?_ (by (try simp) <;> omega) _ | with_reducible assumption | with_reducible refine Up.trans ?_ (by assumption)))
      have hz_w1 := Up.size hb_w1
      try simp at hz_w1
      obtain ⟨bd_w1_0, be_w1_0⟩ := hb_w1.at_ (b0) (by (try simp) <;> omega)
      have zb_w1_0 : b0 < w1.heap.size := by omega
      go_wp2_with fail
      go_wp2
      go_ret2
      exact ⟨rfl, by (repeat (first | with_reducible exact Up.refl _ | with_reducible refine Up.alloc ?_ _ | with_reducible refine Up.drew ?_ | with_reducible refine Up.drewN ?_ _ | with_reducible refine Up.setCell ?_ (by (try simp) <;> omega) _ | with_reducible assumption | with_reducible refine Up.trans ?_ (by assumption)))⟩
  by_cases hm : 128 ≤ a0 ∧ a0 < 192
  · simp only [decN, decE, hp, h16, hm, or_self, if_true, if_false, and_self]
    have z : a0 / 64 = 2 := by omega
    obtain ⟨m0, m1⟩ := hm
    rcases hs with rfl | rfl
    all_goals
      go_enter Tryz.func422, Tryz.ntmps422
      go_wp2_with fail
      refine wp_region_up_lit (by kernel_rfl) (by kernel_rfl) ?_
      repeat (go_big_quiet_step (fail))
      refine wpQuiet_nil ?_
      rintro w1 ⟨W_w1, hw_w1⟩
      have hb_w1 : Up _ w1 := hw_w1 ▸ up_upOf _ _
      clear hw_w1 W_w1
      have hu_w1 : Up w w1 := by (repeat (first | with_reducible exact Up.refl _ | with_reducible refine Up.alloc ?_ _ | with_reducible refine Up.drew ?_ | with_reducible refine Up.drewN ?_ _ | with_reducible refine Up.setCell ?_ (by (try simp) <;> omega) _ | with_reducible assumption | with_reducible refine Up.trans ?_ (by assumption)))
      have hz_w1 := Up.size hb_w1
      try simp at hz_w1
      obtain ⟨bd_w1_0, be_w1_0⟩ := hb_w1.at_ (b0) (by (try simp) <;> omega)
      have zb_w1_0 : b0 < w1.heap.size := by omega
      go_wp2_with fail
      go_wp2
      go_ret2
      exact ⟨rfl, by (repeat (first | with_reducible exact Up.refl _ | with_reducible refine Up.alloc ?_ _ | with_reducible refine Up.drew ?_ | with_reducible refine Up.drewN ?_ _ | with_reducible refine Up.setCell ?_ (by (try simp) <;> omega) _ | with_reducible assumption | with_reducible refine Up.trans ?_ (by assumption)))⟩
  · simp only [decN, decE, hp, h16, hm, or_self, if_true, if_false]
    have hd : (64 ≤ a0 ∧ a0 < 128) ∨ 192 ≤ a0 := by omega
    have z : a0 / 64 = 1 ∨ a0 / 64 = 3 := by omega
    rcases hs with rfl | rfl
    all_goals
      rcases hd with ⟨d0, d1⟩ | d0
      all_goals
        go_enter Tryz.func422, Tryz.ntmps422
        go_wp2_with fail
        refine wp_region_up_lit (by kernel_rfl) (by kernel_rfl) ?_
        repeat (go_big_quiet_step (fail))
        refine wpQuiet_nil ?_
        rintro w1 ⟨W_w1, hw_w1⟩
        have hb_w1 : Up _ w1 := hw_w1 ▸ up_upOf _ _
        clear hw_w1 W_w1
        have hu_w1 : Up w w1 := by (repeat (first | with_reducible exact Up.refl _ | with_reducible refine Up.alloc ?_ _ | with_reducible refine Up.drew ?_ | with_reducible refine Up.drewN ?_ _ | with_reducible refine Up.setCell ?_ (by (try simp) <;> omega) _ | with_reducible assumption | with_reducible refine Up.trans ?_ (by assumption)))
        have hz_w1 := Up.size hb_w1
        try simp at hz_w1
        obtain ⟨bd_w1_0, be_w1_0⟩ := hb_w1.at_ (b0) (by (try simp) <;> omega)
        have zb_w1_0 : b0 < w1.heap.size := by omega
        go_wp2_with fail
        refine wp_region_up_lit (by kernel_rfl) (by kernel_rfl) ?_
        repeat (go_big_quiet_step ((go_at_call 428; exact up_same (unsix_any _ _ (by omega) (by omega)))))
        refine wpQuiet_nil ?_
        rintro w2 ⟨W_w2, hw_w2⟩
        have hb_w2 : Up _ w2 := hw_w2 ▸ up_upOf _ _
        clear hw_w2 W_w2
        have hu_w2 : Up w1 w2 := by (repeat (first | with_reducible exact Up.refl _ | with_reducible refine Up.alloc ?_ _ | with_reducible refine Up.drew ?_ | with_reducible refine Up.drewN ?_ _ | with_reducible refine Up.setCell ?_ (by (try simp) <;> omega) _ | with_reducible assumption | with_reducible refine Up.trans ?_ (by assumption)))
        have hz_w2 := Up.size hb_w2
        try simp at hz_w2
        obtain ⟨bc_w2_0, bf_w2_0⟩ := hu_w2.at_ (b0) (by omega)
        have zb_w2_0 : b0 < w2.heap.size := by omega
        go_wp2_with fail
        go_wp2
        go_ret2
        exact ⟨rfl, by (repeat (first | with_reducible exact Up.refl _ | with_reducible refine Up.alloc ?_ _ | with_reducible refine Up.drew ?_ | with_reducible refine Up.drewN ?_ _ | with_reducible refine Up.setCell ?_ (by (try simp) <;> omega) _ | with_reducible assumption | with_reducible refine Up.trans ?_ (by assumption)))⟩

end Go.Proofs.YtamfjgioajmnpaaGreatDoor
namespace Go.Proofs.YtamfjgioajmnpaaGreatDoor
open Go.RowKit
set_option linter.unusedVariables false
set_option linter.unusedSimpArgs false

theorem ord_tab2 : ∀ k : Fin 256, ((k.val : Int) != 0 && !(nm16 (k.val : Int)).data.toList.isEmpty) = isOrd (k.val : Int) := by decide +kernel
theorem isOrd_tab {x : Int} (h : 0 ≤ x ∧ x ≤ 255) : (x != 0 && !(nm16 x).toList.isEmpty) = isOrd x := by
  rw [ByteArray.toList_eq]
  have := ord_tab2 ⟨x.toNat, by omega⟩
  have e : ((x.toNat : Nat) : Int) = x := by omega
  simpa only [e] using this
set_option maxHeartbeats 800000 in
theorem is_is {x : Int} (h : 0 ≤ x ∧ x ≤ 255) (w : World) :
    Calls Tryz.prog 306 #[.int .u8 x] w fun e w' => e = .returned (.bool (isOrd x)) ∧ w = w' := by
  have ht := isOrd_tab h
  obtain ⟨h0, h1⟩ := h
  have HN := Lib.hid (fun w => oname_is x w)
  generalize nm16 x = s at *
  cases e0 : (x != 0)
  · rw [e0] at ht
    have ht' : isOrd x = false := by rw [← ht]; rfl
    rw [ht']
    clear ht ht'
    go_enter Tryz.func306, Tryz.ntmps306
    go_wp2
    go_ret
    exact ⟨rfl, rfl⟩
  · rw [e0] at ht
    have ht' : isOrd x = !s.toList.isEmpty := by rw [← ht]; rfl
    rw [ht']
    clear ht ht'
    go_enter Tryz.func306, Tryz.ntmps306
    go_wp2_with fail
    refine (HN.out _).mono ?_
    rintro e w1 ⟨rfl, rfl⟩
    go_wp2_with fail
    go_ret
    exact ⟨rfl, rfl⟩
theorem Sc.cell [QP] {W : World} {b : Nat} {A : Option Addr} {n c : Nat} {l : List Int} {e : Int} (h : Sc W b A n c l e) {i : Nat} (hi : i < n) : ∃ g off, A = some ⟨g, off, none⟩ ∧ g < W.heap.size ∧ g ≠ b ∧ W.cell? ⟨g, off + i, none⟩ = some (.int .u8 (l.getD i 0)) := by
  obtain ⟨g, off, rfl, zg⟩ := h.sl.form (by omega)
  exact ⟨g, off, rfl, zg, h.ne _ rfl, h.sl.cell hi⟩
set_option maxHeartbeats 800000 in
theorem char_ok [QP] {w : World} {b : Nat} {A : Option Addr} {n c : Nat} {y : Int} {r : List Int} {e0 : Int} (h : Sc w b A n c (y :: r) e0) (hy : isOrd y = false) :
    Calls Tryz.prog 406 #[.pointer (some ⟨b, 0, none⟩)] w fun e w' => e = .returned (.int .u8 y) ∧ (∃ A' n' c', Sc w' b A' n' c' r e0) ∧ Near b w w' := by
  have hl := h.sl.len
  simp at hl
  have hyb := h.sl.bytes y (by simp)
  have HT := Lib.hid (take_ok (k := 1) h (by omega) (by omega))
  have HI := Lib.hid (fun w => is_is hyb w)
  rw [hy] at HI
  obtain ⟨g, off, rfl, zg, hgb, hc0⟩ := h.cell (i := 0) (by omega)
  simp only [List.getD_cons_zero, Nat.add_zero] at hc0
  clear h hl
  go_enter Tryz.func406, Tryz.ntmps406
  go_wp2_with fail
  refine HT.out.mono ?_
  rintro e w1 ⟨rfl, ⟨A', hs1⟩, hk1⟩
  have hc1 := ((hk1.at_ g zg hgb).1 off).trans hc0
  have zg1 := cell_lt hc1
  simp only at zg1
  have HR := Lib.hid (show Sc w1 b A' _ _ r e0 ∧ Near b w w1 from ⟨hs1, hk1⟩)
  clear hs1 hk1
  go_wp2_with fail
  refine (HI.out _).mono ?_
  rintro e w2 ⟨rfl, rfl⟩
  go_wp2_with fail
  go_ret
  exact ⟨rfl, ⟨_, _, _, HR.out.1⟩, HR.out.2⟩
set_option maxHeartbeats 800000 in
theorem char_no [QP] {w : World} {b : Nat} {A : Option Addr} {n c : Nat} {l : List Int} {e0 : Int} (h : Sc w b A n c l e0) (hy : e0 ≠ 0 ∨ l = [] ∨ isOrd (l.getD 0 0) = true) :
    Calls Tryz.prog 406 #[.pointer (some ⟨b, 0, none⟩)] w fun e w' => ∃ y A' n' c' l' e1, e = .returned (.int .u8 y) ∧ e1 ≠ 0 ∧ Sc w' b A' n' c' l' e1 ∧ Near b w w' := by
  have hl := h.sl.len
  rcases Nat.eq_zero_or_pos n with rfl | hn
  · obtain rfl : l = [] := List.eq_nil_of_length_eq_zero hl
    have HT := Lib.hid (take_no (k := 1) h (by omega) (by omega))
    have HI := Lib.hid (fun w => is_is (x := 0) (by omega) w)
    rw [show isOrd 0 = false from rfl] at HI
    have hE := errs_ne (e := e0) (x := 2) (.inr (by omega))
    generalize errs e0 2 = e1 at *
    have HE := Lib.hid hE
    clear h hl hy hE
    go_enter Tryz.func406, Tryz.ntmps406
    go_wp2_with fail
    refine HT.out.mono ?_
    rintro e w1 ⟨g, rfl, zg, hgb, hc, hs1, hk1⟩
    have hc0 := hc 0 (by omega)
    have HR := Lib.hid (show Sc w1 b none 0 0 [] e1 ∧ Near b w w1 from ⟨hs1, hk1⟩)
    clear hs1 hk1 hc
    go_wp2_with fail
    refine (HI.out _).mono ?_
    rintro e w2 ⟨rfl, rfl⟩
    go_wp2_with fail
    go_ret
    exact ⟨_, _, _, _, _, _, rfl, HE.out, HR.out.1, HR.out.2⟩
  · obtain ⟨y, r, rfl⟩ : ∃ y r, l = y :: r := by
      cases l with
      | nil => simp at hl; omega
      | cons y r => exact ⟨y, r, rfl⟩
    simp only [List.getD_cons_zero] at hy
    cases ho : isOrd y
    · have he : e0 ≠ 0 := by simpa [ho] using hy
      refine (char_ok h ho).mono ?_
      rintro e w' ⟨rfl, ⟨A', n', c', hs⟩, hk⟩
      exact ⟨_, _, _, _, _, _, rfl, he, hs, hk⟩
    · have hyb := h.sl.bytes y (by simp)
      have HT := Lib.hid (take_ok (k := 1) h (by omega) (by omega))
      have HI := Lib.hid (fun w => is_is hyb w)
      rw [ho] at HI
      obtain ⟨g, off, rfl, zg, hgb, hc0⟩ := h.cell (i := 0) (by omega)
      simp only [List.getD_cons_zero, Nat.add_zero] at hc0
      have HE := Lib.hid (errs_ne (e := e0) (x := 10) (.inr (by omega)))
      clear h hl hy ho
      go_enter Tryz.func406, Tryz.ntmps406
      go_wp2_with fail
      refine HT.out.mono ?_
      rintro e w1 ⟨rfl, ⟨A', hs1⟩, hk1⟩
      have hc1 := ((hk1.at_ g zg hgb).1 off).trans hc0
      have zg1 := cell_lt hc1
      simp only at zg1
      have HR := Lib.hid (sfail_is 10 hs1)
      have HK := Lib.hid hk1
      clear hs1 hk1
      go_wp2_with fail
      refine (HI.out _).mono ?_
      rintro e w2 ⟨rfl, rfl⟩
      go_wp2_with fail
      refine HR.out.mono ?_
      rintro e w3 ⟨rfl, hs3, hk3⟩
      have HX := Lib.hid (show Sc w3 b A' _ _ _ (errs e0 10) ∧ Near b w w3 from ⟨hs3, HK.out.trans hk3⟩)
      clear hs3 hk3
      go_wp2_with fail
      go_ret
      exact ⟨_, _, _, _, _, _, rfl, HE.out, HX.out.1, HX.out.2⟩
end Go.Proofs.YtamfjgioajmnpaaGreatDoor
namespace Go.Proofs.YtamfjgioajmnpaaGreatDoor
open Go.RowKit
set_option linter.unusedVariables false
set_option linter.unusedSimpArgs false

theorem decE_or (r : Int) : decE 12 r = 0 ∨ decE 12 r = 9 := by
  unfold decE
  split
  · exact .inl rfl
  split
  · exact .inr rfl
  · exact .inl rfl
set_option maxHeartbeats 800000 in
theorem addr_ok [QP] {w : World} {b : Nat} {A : Option Addr} {n c : Nat} {x y : Int} {r : List Int} (h : Sc w b A n c (x :: y :: r) 0) (hy : decE 12 x = 0) :
    Calls Tryz.prog 405 #[.pointer (some ⟨b, 0, none⟩)] w fun e w' => e = .returned (.int .i64 (decN 12 x y)) ∧ (∃ A' n' c', Sc w' b A' n' c' r 0) ∧ Near b w w' := by
  have hl := h.sl.len
  simp at hl
  have hw := h.sl.bytes
  have HT := Lib.hid (take_ok (k := 2) h (by omega) (by omega))
  have HD := Lib.hid (fun W (hr : Sl 0 W A 2 2 [x, y]) => decode_ok 12 A 2 2 x y [] W (by unfold bitsB; omega) hr.rd hr.bytes (by omega))
  rw [hy] at HD
  have HSL := Lib.hid (h.sl.front (k := 2) (by omega))
  have HNE := Lib.hid h.ne
  simp only [List.take_succ_cons, List.take_zero] at HSL
  clear h hl hw hy
  go_enter Tryz.func405, Tryz.ntmps405
  go_wp2_with fail
  refine HT.out.mono ?_
  rintro e w1 ⟨rfl, ⟨A', hs1⟩, hk1⟩
  have HS1 := Lib.hid (HSL.out.past hk1 HNE.out)
  have HR := Lib.hid (show Sc w1 b A' _ _ r 0 ∧ Near b w w1 from ⟨hs1, hk1⟩)
  have c1 := hs1.c1
  have zb := hs1.lt
  clear hs1 hk1
  go_wp2_with fail
  refine (HD.out _ HS1.out).mono ?_
  rintro e w2 ⟨rfl, hu2⟩
  have HX := Lib.hid (show Sc w2 b A' _ _ r 0 ∧ Near b w w2 from ⟨HR.out.1.up hu2, HR.out.2.up hu2⟩)
  clear hu2 c1
  go_wp2_with fail
  go_ret
  exact ⟨rfl, ⟨_, _, _, HX.out.1⟩, HX.out.2⟩
set_option maxHeartbeats 1600000 in
theorem addr_no [QP] {w : World} {b : Nat} {A : Option Addr} {n c : Nat} {l : List Int} (h : Sc w b A n c l 0) (hy : l.length < 2 ∨ decE 12 (l.getD 0 0) ≠ 0) :
    Calls Tryz.prog 405 #[.pointer (some ⟨b, 0, none⟩)] w fun e w' => ∃ v A' n' c' l' e1, e = .returned (.int .i64 v) ∧ e1 ≠ 0 ∧ Sc w' b A' n' c' l' e1 ∧ Near b w w' := by
  have hl := h.sl.len
  by_cases hn : n < 2
  · have HT := Lib.hid (take_no (k := 2) h hn (by omega))
    rw [show errs 0 2 = 2 from rfl] at HT
    clear h hl hy
    go_enter Tryz.func405, Tryz.ntmps405
    go_wp2_with fail
    refine HT.out.mono ?_
    rintro e w1 ⟨g, rfl, zg, hgb, hc, hs1, hk1⟩
    have HR := Lib.hid (show Sc w1 b none 0 0 [] 2 ∧ Near b w w1 from ⟨hs1, hk1⟩)
    have c1 := hs1.c1
    have zb := hs1.lt
    clear hs1 hk1 hc
    go_wp2_with fail
    go_ret
    exact ⟨_, _, _, _, _, _, rfl, by omega, HR.out.1, HR.out.2⟩
  · obtain ⟨x, y, r, rfl⟩ : ∃ x y r, l = x :: y :: r := by
      match l, hl with
      | [], hl => simp at hl; omega
      | [_], hl => simp at hl; omega
      | x :: y :: r, _ => exact ⟨x, y, r, rfl⟩
    have hy : decE 12 x = 9 := by
      rcases hy with hy | hy
      · simp at hy; omega
      · rcases decE_or x with h1 | h1
        · exact absurd h1 hy
        · exact h1
    have hw := h.sl.bytes
    have HT := Lib.hid (take_ok (k := 2) h (by omega) (by omega))
    have HD := Lib.hid (fun W (hr : Sl 0 W A 2 2 [x, y]) => decode_ok 12 A 2 2 x y [] W (by unfold bitsB; omega) hr.rd hr.bytes (by omega))
    rw [hy] at HD
    have HSL := Lib.hid (h.sl.front (k := 2) (by omega))
    have HNE := Lib.hid h.ne
    simp only [List.take_succ_cons, List.take_zero] at HSL
    clear h hl hw hy
    go_enter Tryz.func405, Tryz.ntmps405
    go_wp2_with fail
    refine HT.out.mono ?_
    rintro e w1 ⟨rfl, ⟨A', hs1⟩, hk1⟩
    have HS1 := Lib.hid (HSL.out.past hk1 HNE.out)
    have HR := Lib.hid (show Sc w1 b A' _ _ r 0 ∧ Near b w w1 from ⟨hs1, hk1⟩)
    have c1 := hs1.c1
    have zb := hs1.lt
    clear hs1 hk1
    go_wp2_with fail
    refine (HD.out _ HS1.out).mono ?_
    rintro e w2 ⟨rfl, hu2⟩
    have HX := Lib.hid (show Sc w2 b A' _ _ r 0 ∧ Near b w w2 from ⟨HR.out.1.up hu2, HR.out.2.up hu2⟩)
    have HF := Lib.hid (sfail_is 9 HX.out.1)
    rw [show errs 0 9 = 9 from rfl] at HF
    clear hu2 c1
    go_wp2_with fail
    refine HF.out.mono ?_
    rintro e w3 ⟨rfl, hs3, hk3⟩
    have HY := Lib.hid (show Sc w3 b A' _ _ r 9 ∧ Near b w w3 from ⟨hs3, HX.out.2.trans hk3⟩)
    clear hs3 hk3
    go_wp2_with fail
    go_ret
    exact ⟨_, _, _, _, _, _, rfl, by omega, HY.out.1, HY.out.2⟩
/-- as many as are no order's bytes -/
def txtN : List Int → Nat
  | [] => 0
  | x :: l => if isOrd x then 0 else txtN l + 1
theorem txtN_le (l : List Int) : txtN l ≤ l.length := by
  induction l with
  | nil => simp [txtN]
  | cons x l ih => unfold txtN; split <;> simp; omega
theorem txtN_lt (l : List Int) : ∀ i, i < txtN l → isOrd (l.getD i 0) = false := by
  induction l with
  | nil => intro i h; simp [txtN] at h
  | cons x l ih =>
    intro i h
    unfold txtN at h
    cases ho : isOrd x
    · rw [ho] at h
      simp at h
      cases i with
      | zero => exact ho
      | succ i => exact ih i (by omega)
    · rw [ho] at h; simp at h
theorem txtN_at (l : List Int) (h : txtN l < l.length) : isOrd (l.getD (txtN l) 0) = true := by
  induction l with
  | nil => simp at h
  | cons x l ih =>
    unfold txtN at h ⊢
    cases ho : isOrd x
    · rw [ho] at h
      simp at h ⊢
      have := ih h
      simpa using this
    · simpa using ho
set_option maxHeartbeats 1600000 in
theorem text_is [QP] {w : World} {b : Nat} {A : Option Addr} {n c : Nat} {l : List Int} {e0 : Int} (h : Sc w b A n c l e0) (h0 : 0 < txtN l) :
    Calls Tryz.prog 403 #[.pointer (some ⟨b, 0, none⟩)] w fun e w' => ∃ A1 c1, e = .returned (.slice A1 (txtN l) c1) ∧ Sl w.heap.size w' A1 (txtN l) c1 (l.take (txtN l)) ∧ (∃ A' n' c', Sc w' b A' n' c' (l.drop (txtN l)) e0) ∧ Near b w w' := by
  have hl := h.sl.len
  have hle := txtN_le l
  have hlt := txtN_lt l
  have hat := txtN_at l
  have HIS := Lib.hid (fun i w => is_is (x := l.getD i 0) h.sl.byte w)
  have hsm := h.sl.small
  have HH := Lib.hid h
  obtain ⟨m, hm⟩ : ∃ m, txtN l = m := ⟨_, rfl⟩
  rw [hm] at h0 hle hlt hat ⊢
  have HLT := Lib.hid hlt
  have HAT := Lib.hid hat
  have HL := Lib.hid hl
  have hmn : m ≤ n := by omega
  obtain ⟨g, off, rfl, zg⟩ := h.sl.form (by omega)
  have HC := Lib.hid (fun i (hi : i < n) => h.sl.cell hi)
  have HT := Lib.hid (take_ok (k := m) h h0 hmn)
  have HSL := Lib.hid (h.sl.front hmn)
  have HNE := Lib.hid h.ne
  have c0 := h.c0
  have zb := h.lt
  clear h hl hlt hat hm hle
  go_enter Tryz.func403, Tryz.ntmps403
  go_wp2
  go_loopw [3] (fun i wr => ∃ j : Nat, j ≤ m ∧ i = .int .i64 (j : Int) ∧ wr = w) (fun i _ => m - (intOf i).toNat)
  case atStart => exact ⟨0, by omega, rfl, by first | rfl | trivial⟩
  case round =>
    obtain ⟨j, hj, rfl, rfl⟩ := hrel
    by_cases hjn : j < n
    · have hcj := HC.out j hjn
      have q1 : (j : Int) < (n : Int) := by omega
      by_cases hjm : j < m
      · have ho := HLT.out j hjm
        have HI := Lib.hid (fun w => HIS.out j w)
        rw [ho] at HI
        clear ho
        go_wp2_with fail
        refine (HI.out _).mono ?_
        rintro e w2 ⟨rfl, rfl⟩
        go_wp2_with fail
        go_roundw
        case rel => exact ⟨j + 1, by omega, by go_num, by first | rfl | trivial⟩
        case measure => simp [intOf]; omega
      · obtain rfl : j = m := by omega
        have ho := HAT.out (by have := HL.out; omega)
        have HI := Lib.hid (fun w => HIS.out j w)
        rw [ho] at HI
        clear ho
        go_wp2_with fail
        refine (HI.out _).mono ?_
        rintro e w2 ⟨rfl, rfl⟩
        go_wp2_with fail
        refine HT.out.mono ?_
        rintro e w3 ⟨rfl, ⟨A', hs3⟩, hk3⟩
        have HS3 := Lib.hid (HSL.out.past hk3 HNE.out)
        have HX := Lib.hid (show Sc w3 b A' _ _ _ e0 ∧ Near b wr w3 from ⟨hs3, hk3⟩)
        clear hs3 hk3
        go_wp2_with fail
        refine (clone_sl HS3.out).mono ?_
        rintro e w4 ⟨A1, c1, rfl, hsl, hu4⟩
        have HY := Lib.hid (show Sl w3.heap.size w4 A1 j c1 _ ∧ Sc w4 b A' _ _ _ e0 ∧ Near b wr w4 from ⟨hsl, HX.out.1.up hu4, HX.out.2.up hu4⟩)
        clear hsl hu4
        go_wp2_with fail
        go_ret
        exact ⟨_, _, rfl, HY.out.1.low HX.out.2.size, ⟨_, _, _, HY.out.2.1⟩, HY.out.2.2⟩
    · obtain rfl : j = m := by omega
      go_wp2_with fail
      refine HT.out.mono ?_
      rintro e w3 ⟨rfl, ⟨A', hs3⟩, hk3⟩
      have HS3 := Lib.hid (HSL.out.past hk3 HNE.out)
      have HX := Lib.hid (show Sc w3 b A' _ _ _ e0 ∧ Near b wr w3 from ⟨hs3, hk3⟩)
      clear hs3 hk3
      go_wp2_with fail
      refine (clone_sl HS3.out).mono ?_
      rintro e w4 ⟨A1, c1, rfl, hsl, hu4⟩
      have HY := Lib.hid (show Sl w3.heap.size w4 A1 j c1 _ ∧ Sc w4 b A' _ _ _ e0 ∧ Near b wr w4 from ⟨hsl, HX.out.1.up hu4, HX.out.2.up hu4⟩)
      clear hsl hu4
      go_wp2_with fail
      go_ret
      exact ⟨_, _, rfl, HY.out.1.low HX.out.2.size, ⟨_, _, _, HY.out.2.1⟩, HY.out.2.2⟩
end Go.Proofs.YtamfjgioajmnpaaGreatDoor
namespace Go.Proofs.YtamfjgioajmnpaaGreatDoor
open Go.RowKit
set_option linter.unusedVariables false
set_option linter.unusedSimpArgs false

/-- is it an extended attribute? -/
def rightB (t v : Int) : Bool :=
  if t = 0 then v == 0 else if t = 192 then true else if t = 65 then v == 0 || v == 240 || v == 241 || v == 242 || v == 244 || v == 248
  else if t = 66 then v == 0 || (decide (241 ≤ v) && decide (v ≤ 247)) else if t = 67 then v == 0 || v == 241 else false

set_option maxHeartbeats 1000000 in
theorem check_any (t v : Int) (w : World) :
    Calls Tryz.prog 414 #[.agg #[.int .u8 t, .int .u8 v]] w fun e w' => e = .returned (.int .i64 (if rightB t v then 0 else 10)) ∧ Up w w' := by
  go_enter Tryz.func414, Tryz.ntmps414
  go_wp2
  all_goals
    go_ret
    refine ⟨ret_int ?_, (Up.refl _).alloc _⟩
    simp_all [rightB] <;> omega
theorem check_good {t v : Int} (h : rightB t v = true) (w : World) :
    Calls Tryz.prog 414 #[.agg #[.int .u8 t, .int .u8 v]] w fun e w' => e = .returned (.int .i64 0) ∧ Up w w' := by
  have := check_any t v w
  rw [h] at this
  exact this
theorem check_bad {t v : Int} (h : rightB t v = false) (w : World) :
    Calls Tryz.prog 414 #[.agg #[.int .u8 t, .int .u8 v]] w fun e w' => e = .returned (.int .i64 10) ∧ Up w w' := by
  have := check_any t v w
  rw [h] at this
  exact this
end Go.Proofs.YtamfjgioajmnpaaGreatDoor
namespace Go.Proofs.YtamfjgioajmnpaaGreatDoor
open Go.RowKit
set_option linter.unusedVariables false
set_option linter.unusedSimpArgs false

end Go.Proofs.YtamfjgioajmnpaaGreatDoor
