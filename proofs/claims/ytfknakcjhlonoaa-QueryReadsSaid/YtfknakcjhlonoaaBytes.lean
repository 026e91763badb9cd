/-
  What the references' Copy, Cut and Same compute over bytes. No condition but the slice's own reach.
-/
import Derived.Test.YtfknakcjhlonoaaApp
namespace Go.Proofs.Ytfknakcjhlonoaa
open Go.RowKit
set_option linter.unusedVariables false
set_option linter.unusedSimpArgs false

theorem info_u8 : (Try.prog.info? 5).map (fun i => (i.zero, i.size, i.bytes)) = some (some (.int .u8 0), 1, 1) := by kernel_rfl
def bs (l : List Int) : List Value := l.map (Value.int .u8)

/-- the string of these bytes -/
def strOf (l : List Int) : ByteArray := (l).foldl (fun r n => r.push (UInt8.ofNat n.toNat)) ByteArray.empty
theorem push_list : ∀ (l : List Int) (r : ByteArray), (l.foldl (fun r n => r.push (UInt8.ofNat n.toNat)) r).data.toList = r.data.toList ++ l.map fun n => UInt8.ofNat n.toNat
  | [], r => by simp
  | n :: l, r => by
    rw [List.foldl_cons, push_list l]
    simp [ByteArray.push]
theorem strOf_list (l : List Int) : (strOf l).data.toList = l.map fun n => UInt8.ofNat n.toNat := by
  unfold strOf
  rw [push_list]
  simp
theorem byte_inj {a b : Int} (ha : 0 ≤ a ∧ a ≤ 255) (hb : 0 ≤ b ∧ b ≤ 255) (h : UInt8.ofNat a.toNat = UInt8.ofNat b.toNat) : a = b := by
  have := congrArg UInt8.toNat h
  simp at this
  omega
theorem strOf_inj : ∀ {l m : List Int}, (∀ x ∈ l, 0 ≤ x ∧ x ≤ 255) → (∀ x ∈ m, 0 ≤ x ∧ x ≤ 255) → (l.map fun n => UInt8.ofNat n.toNat) = (m.map fun n => UInt8.ofNat n.toNat) → l = m
  | [], [], _, _, _ => rfl
  | [], _ :: _, _, _, h => by simp at h
  | _ :: _, [], _, _, h => by simp at h
  | a :: l, b :: m, hl, hm, h => by
    simp only [List.map_cons, List.cons.injEq] at h
    rw [byte_inj (hl a (by simp)) (hm b (by simp)) h.1, strOf_inj (fun x hx => hl x (by simp [hx])) (fun x hx => hm x (by simp [hx])) h.2]
theorem run_string_bytes {P : Program} (w : World) (src dst e : TypeId) {B n c : Nat} {A : Option Addr} {l : List Int}
    (hs : P.underlying src = some (.slice e)) (he : P.underlying e = some (.int .u8)) (hd : P.underlying dst = some .string) (hr : Reads w B 1 A n (bs l)) :
    (convert src dst (.slice A n c)).run P w = .ok (.string (strOf l)) w := by
  have hlen : l.length = n := by simpa [bs] using hr.1
  cases A with
  | none =>
    have h0 : n = 0 := by
      rcases Nat.eq_zero_or_pos n with h0 | h0
      · exact h0
      · obtain ⟨_, _, h, _⟩ := hr.2 h0
        cases h
    subst h0
    obtain rfl : l = [] := List.eq_nil_of_length_eq_zero hlen
    simp [convert, run_underlying hs, run_underlying hd, run_underlying he, Conv.bytesToString, strOf]
  | some ad =>
    have hc : ∀ j v, (bs l)[j]? = some v → w.cell? (ad.add j) = some v := by
      intro j v hv
      rcases Nat.eq_zero_or_pos n with h0 | h0
      · rw [h0] at hlen
        obtain rfl : l = [] := List.eq_nil_of_length_eq_zero hlen
        simp [bs] at hv
      · obtain ⟨b, off, e, _, hc⟩ := hr.2 h0
        injection e with e
        subst e
        rw [at_add]
        exact hc j v hv
    rw [run_convert_bytes_string w src dst e _ _ _ hs he hd]
    refine run_bytesToString w ad n c l ?_
    have := run_loadCells_list (P := P) (w := w) ad (bs l) hc
    rwa [hr.1, Nat.mul_one] at this
theorem strOf_eq {l m : List Int} (hl : ∀ x ∈ l, 0 ≤ x ∧ x ≤ 255) (hm : ∀ x ∈ m, 0 ≤ x ∧ x ≤ 255) : ((strOf l).toList == (strOf m).toList) = decide (l = m) := by
  rw [Lib.toList_data, Lib.toList_data, strOf_list, strOf_list]
  by_cases h : l = m
  · subst h; simp
  · have : ¬ (l.map fun n => UInt8.ofNat n.toNat) = (m.map fun n => UInt8.ofNat n.toNat) := fun e => h (strOf_inj hl hm e)
    simp [h, this]

set_option maxHeartbeats 400000 in
theorem copy_any (A : Option Addr) (n c : Nat) (l : List Int) (w : World) (hr : Reads w w.heap.size 1 A n (bs l)) (hn : n ≤ 140737488355328) :
    Calls Try.prog 16 #[.slice A n c] w fun e w' => ∃ A' c', e = .returned (.slice A' n c') ∧ w'.ownsRow w.heap.size 5 1 (.slice A' n c') n (bs l) ∧ n ≤ c' ∧ c' ≤ maxLen ∧ Up w w' := by
  obtain ⟨i0, hi, hz0, hz1, hz2⟩ := info_parts info_u8
  go_enter Try.func16, Try.ntmps16
  go_wp2_with (at_builtin; refine wpList_app _ rfl (.tmp 3) (.tmp 4) 22 rfl w.heap.size 5 i0 _ 1 1 Try.underlying22 hi hz0 hz1 hz2 rfl (by decide) _ 0 0 [] rfl (World.ownsRow_lit w #[] 0 (Nat.le_refl _) (by simp [maxLen]) rfl) w.heap.size A n c (bs l) rfl (hr.alloc (Nat.le_refl _) _) (one_u8 l) (by simp [maxLen]; omega) (by omega) (by simp) ?_; intro A1 c1 w1 hown1 hg1 hle1 hmx1 hbl1; simp only [Nat.zero_add, List.nil_append] at hown1 hle1)
  go_ret
  exact ⟨A1, c1, rfl, hown1, hle1, hmx1, ((Up.refl _).alloc _).past hbl1⟩

set_option maxHeartbeats 400000 in
theorem cut_any (A : Option Addr) (n c : Nat) (l : List Int) (m : Int) (w : World) (hr : Reads w w.heap.size 1 A n (bs l)) (hn : n ≤ c) (hc : c ≤ maxLen) (hm : 0 ≤ m) (hm' : m ≤ 65536) :
    Calls Try.prog 15 #[.slice A n c, .int .i64 m] w fun e w' => ∃ A' n' c', e = .returned (.slice A' n' c') ∧ n' = min n m.toNat ∧ w'.ownsRow w.heap.size 5 1 (.slice A' n' c') n' (bs (l.take m.toNat)) ∧ n' ≤ c' ∧ c' ≤ maxLen ∧ Up w w' := by
  have hl : l.length = n := by simpa [bs] using hr.1
  obtain ⟨k, rfl⟩ := Int.eq_ofNat_of_zero_le hm
  have hcm : c ≤ 9223372036854775807 := by simpa [maxLen] using hc
  by_cases h : (k : Int) < n
  · have hr' : Reads w w.heap.size 1 A k (bs (l.take k)) := by
      have := hr.take (k := k) (by omega)
      rw [Nat.mul_one] at this
      rwa [bs, List.map_take]
    have hkc : k ≤ c := by omega
    go_enter Try.func15, Try.ntmps15
    go_wp2_with (go_at_call 16; refine (copy_any _ _ _ (l.take k) _ hr' (by omega)).mono ?_; rintro e w1 ⟨A1, c1, rfl, h1, h2, h3, h4⟩)
    go_ret
    exact ⟨A1, k, c1, rfl, by rw [Int.toNat_natCast]; omega, by rwa [Int.toNat_natCast], h2, h3, h4⟩
  · have hkn : n ≤ k := by omega
    go_enter Try.func15, Try.ntmps15
    go_wp2_with (go_at_call 16; refine (copy_any _ _ _ l _ hr (by omega)).mono ?_; rintro e w1 ⟨A1, c1, rfl, h1, h2, h3, h4⟩)
    go_ret
    exact ⟨A1, n, c1, rfl, by rw [Int.toNat_natCast]; omega, by rw [Int.toNat_natCast, List.take_of_length_le (by omega)]; exact h1, h2, h3, h4⟩
set_option maxHeartbeats 400000 in
theorem same_any (A A' : Option Addr) (n n' c c' B B' : Nat) (l l' : List Int) (w : World) (hr : Reads w B 1 A n (bs l)) (hr' : Reads w B' 1 A' n' (bs l')) (hl : ∀ x ∈ l, 0 ≤ x ∧ x ≤ 255) (hl' : ∀ x ∈ l', 0 ≤ x ∧ x ≤ 255) :
    Calls Try.prog 12 #[.slice A n c, .slice A' n' c'] w fun e w' => e = .returned (.bool (decide (l = l'))) ∧ w = w' := by
  have k1 := run_string_bytes (P := Try.prog) w 22 9 5 (c := c) Try.underlying22 Try.underlying5 Try.underlying9 hr
  have k2 := run_string_bytes (P := Try.prog) w 22 9 5 (c := c') Try.underlying22 Try.underlying5 Try.underlying9 hr'
  have he := strOf_eq hl hl'
  clear hr hr'
  go_enter Try.func12, Try.ntmps12
  go_wp2
  go_ret
  exact ⟨rfl, rfl⟩
end Go.Proofs.Ytfknakcjhlonoaa
