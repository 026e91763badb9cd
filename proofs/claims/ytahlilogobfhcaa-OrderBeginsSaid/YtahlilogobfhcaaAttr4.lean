/-
  What attr's Parse and the reference's Parse compute. No condition but the slice's own reach.
-/
import Derived.Test.YtahlilogobfhcaaAttr3
import Derived.Test.YtahlilogobfhcaaBytes
import Derived.BigRegion
import Derived.RegionTactic
namespace Go.Proofs.Ytahlilogobfhcaa
open Go.RowKit
set_option linter.unusedVariables false
set_option linter.unusedSimpArgs false

def encP (p : Int × Int) : List Value := [.int .u8 p.1, .int .u8 p.2]
def ps (L : List (Int × Int)) : List Value := L.flatMap encP
theorem ps_snoc (L : List (Int × Int)) (p : Int × Int) : ps (L ++ [p]) = ps L ++ [.int .u8 p.1, .int .u8 p.2] := by simp [ps, encP, List.flatMap_append]
theorem encP_len (p : Int × Int) : (encP p).length = 2 := rfl
theorem ps_len (L : List (Int × Int)) : (ps L).length = L.length * 2 := flatMap_len encP_len L
theorem ps_one (L : List (Int × Int)) : ∀ u ∈ ps L, u.oneCell' = true := by
  intro u hu
  simp only [ps, List.mem_flatMap, encP] at hu
  obtain ⟨p, _, hu⟩ := hu
  simp at hu
  rcases hu with rfl | rfl <;> rfl
def pairAt (l : List Int) (i : Nat) : Int × Int := (l.getD (1 + 2 * i) 0, l.getD (2 + 2 * i) 0)
def pairs (l : List Int) (k : Nat) : List (Int × Int) := (List.range k).map (pairAt l)
theorem pairs_succ (l : List Int) (k : Nat) : pairs l (k + 1) = pairs l k ++ [pairAt l k] := by simp [pairs, List.range_succ]
def goodB (p : Int × Int) : Bool := rightB p.1 p.2
/-- what becomes of the parsed pairs -/
def PPost (base E : Nat) (L : List (Int × Int)) (w : World) (e : Ending) (w' : World) : Prop :=
  Up w w' ∧ ((∃ A c, e = .returned (.tuple #[.slice A L.length c, .int .i64 (1 + 2 * (L.length : Int)), .int .i64 0]) ∧ w'.ownsRow base E 2 (.slice A L.length c) L.length (ps L) ∧ L.length ≤ c ∧ c ≤ maxLen ∧ ∀ p ∈ L, goodB p = true) ∨
    (e = .returned (.tuple #[.slice none 0 0, .int .i64 0, .int .i64 10]) ∧ ∃ p ∈ L, goodB p = false))

theorem info_rp : (Try.prog.info? 51).map (fun i => (i.zero, i.size, i.bytes)) = some (some (.agg #[.int .u8 0, .int .u8 0]), 2, 2) := by kernel_rfl
theorem info_ap : (Try.prog.info? 50).map (fun i => (i.zero, i.size, i.bytes)) = some (some (.agg #[.int .u8 0, .int .u8 0]), 2, 2) := by kernel_rfl

set_option maxHeartbeats 400000 in
theorem parse_short (A : Option Addr) (n c : Nat) (l : List Int) (w : World) (hr : Reads w w.heap.size 1 A n (bs l)) (hl : ∀ x ∈ l, 0 ≤ x ∧ x ≤ 255) (hc : n ≤ 9223372036854775807) (hs : n < 1 + 2 * (l.getD 0 0).toNat) :
    Calls Try.prog 27 #[.slice A n c] w fun e w' => e = .returned (.tuple #[.slice none 0 0, .int .i64 0, .int .i64 2]) ∧ w = w' := by
  have hlen : l.length = n := by simpa [bs] using hr.1
  by_cases h0 : n = 0
  · subst h0
    go_enter Try.func27, Try.ntmps27
    go_wp2
    go_ret3
    exact ⟨rfl, rfl⟩
  · obtain ⟨b, off, rfl, hb, hcell⟩ := hr.2 (by omega)
    have hg : l[0]? = some (l.getD 0 0) := by simp [List.getD, List.getElem?_eq_getElem (show 0 < l.length by omega)]
    have hk := hl (l.getD 0 0) (List.mem_of_getElem? hg)
    have hc0 := hcell 0 (.int .u8 (l.getD 0 0)) (by rw [bs, List.getElem?_map, hg]; rfl)
    rw [Nat.add_zero] at hc0
    generalize l.getD 0 0 = k at hs hk hc0
    clear hcell hr hg
    have t0 : (1 : Int) ≤ (n : Int) := by omega
    have t1 : (n : Int) < (1 : Int) + 2 * k := by omega
    have t2 : (n : Int) - 1 < 2 * k := by omega
    have tz : ((n : Int) == 0) = false := by simp; omega
    go_enter Try.func27, Try.ntmps27
    go_wp2
    go_ret3
    exact ⟨rfl, rfl⟩

set_option maxHeartbeats 800000 in
theorem parse_any (A : Option Addr) (n c : Nat) (l : List Int) (w : World) (hr : Reads w w.heap.size 1 A n (bs l)) (hl : ∀ x ∈ l, 0 ≤ x ∧ x ≤ 255) (hc : n ≤ 9223372036854775807) (k : Nat) (hk : ((k : Nat) : Int) = l.getD 0 0) (hs : 1 + 2 * k ≤ n) :
    Calls Try.prog 27 #[.slice A n c] w (PPost w.heap.size 50 (pairs l k) w) := by
  have hlen : l.length = n := by simpa [bs] using hr.1
  obtain ⟨b, off, rfl, hb, hcell⟩ := hr.2 (by omega)
  have hcl : ∀ j, j < n → w.cell? ⟨b, off + j, none⟩ = some (.int .u8 (l.getD j 0)) := fun j hj => hcell j _ (by rw [bs, List.getElem?_map, List.getElem?_eq_getElem (by omega)]; simp [List.getD, List.getElem?_eq_getElem (show j < l.length by omega)])
  have hk0 : k ≤ 255 := by
    have h0 : l.getD 0 0 = l[0]'(by omega) := by simp [List.getD, List.getElem?_eq_getElem (show 0 < l.length by omega)]
    have := (hl _ (List.getElem_mem (show 0 < l.length by omega))).2
    omega
  have hc0 : w.cell? ⟨b, off, none⟩ = some (.int .u8 (k : Int)) := by
    have := hcl 0 (by omega)
    rw [Nat.add_zero, ← hk] at this
    exact this
  have t0 : (1 : Int) ≤ (n : Int) := by omega
  have t1 : (1 : Int) + 2 * (k : Int) ≤ (n : Int) := by omega
  obtain ⟨i0, hi, hz0, hz1, hz2⟩ := info_parts info_ap
  have HK := Lib.hid hk
  clear hk
  clear hcell hr
  have HC := Lib.hid hcl
  clear hcl
  go_enter Try.func27, Try.ntmps27
  go_wp2
  go_loopw [5, 7] (fun v i wr => ∃ (j : Nat) (A1 : Option Addr) (c1 : Nat), j ≤ k ∧ i = .int .i64 (1 + 2 * (j : Int)) ∧ v = .slice A1 j c1 ∧ wr.ownsRow w.heap.size 50 2 (.slice A1 j c1) j (ps (pairs l j)) ∧ Up w wr ∧ ∀ p ∈ pairs l j, goodB p = true)
    (fun _ i _ => 1 + 2 * k - (intOf i).toNat)
  case atStart => exact ⟨0, none, 0, by omega, rfl, rfl, World.ownsRow_nil _ _ _ _, Up.refl _, by simp [pairs]⟩
  case round =>
    obtain ⟨j, A1, c1, hj, rfl, rfl, hown, hup, hgood⟩ := hrel
    by_cases hlt : j < k
    · have hca : wr.cell? ⟨b, off + (1 + 2 * j), none⟩ = some (.int .u8 (pairAt l j).1) := by
        rw [hup.cells.1 _ _ hb]; exact HC.out _ (by omega)
      have hcb : wr.cell? ⟨b, off + (2 + 2 * j), none⟩ = some (.int .u8 (pairAt l j).2) := by
        rw [hup.cells.1 _ _ hb]; exact HC.out _ (by omega)
      have q1 : (1 : Int) + 2 * (j : Int) < (n : Int) := by omega
      have q2 : (1 : Int) + 2 * (j : Int) + 1 < (n : Int) := by omega
      have q3 : ((1 : Int) + 2 * (j : Int)).toNat = 1 + 2 * j := by omega
      have q4 : ((1 : Int) + 2 * (j : Int) + 1).toNat = 2 + 2 * j := by omega
      have q5 : (0 : Int) ≤ 1 + 2 * (j : Int) := by omega
      have q6 : (0 : Int) ≤ 1 + 2 * (j : Int) + 1 := by omega
      have q7 : IntKind.i64.wrap ((1 : Int) + 2 * (j : Int) + 1) = (1 : Int) + 2 * (j : Int) + 1 := IntWalk.i64_in _ (by omega)
      have hbw : b < wr.heap.size := by have := hup.size; omega
      have hm1 : j + 1 ≤ maxLen := by simp [maxLen]; omega
      cases hg : goodB (pairAt l j)
      · go_wp2
        go_region
        go_wp2_with (go_at_call 26; refine (check_bad hg _).mono ?_; rintro e w3 ⟨rfl, hu3⟩; obtain ⟨bc3, bf3⟩ := hu3.at_ wr.heap.size (by simp))
        go_ret3
        exact ⟨((hup.alloc _).drew).trans hu3, .inr ⟨rfl, pairAt l j, List.mem_map.2 ⟨j, List.mem_range.2 hlt, rfl⟩, hg⟩⟩
      · go_wp2
        go_region
        go_wp2_with (first | (go_at_call 26; refine (check_good hg _).mono ?_; rintro e w3 ⟨rfl, hu3⟩; obtain ⟨bc3, bf3⟩ := hu3.at_ wr.heap.size (by simp)) | (at_builtin; refine wpList_app _ rfl (.tmp 50) (.tmp 52) 33 rfl w.heap.size 50 i0 _ 2 2 Try.underlying33 hi hz0 hz1 hz2 rfl (by decide) A1 j c1 _ rfl (own_up hown ((((Up.refl _).alloc _).drew.trans hu3).alloc _)) _ _ 1 1 _ rfl (reads_new _ 2 1 _ _ rfl) (by simp [Value.oneCell']) hm1 (by omega) (by have h1 := hup.size; have h2 := hu3.size; simp at h2 ⊢; omega) ?_; intro A2 c2 w4 hown4 hg4 hle4 hmx4 hbl4))
        go_roundw
        case rel =>
          refine ⟨j + 1, A2, c2, by omega, by go_num, rfl, ?_, (((((hup.alloc _).drew).trans hu3).alloc _).past hbl4), ?_⟩
          · rw [pairs_succ, ps_snoc]; exact hown4
          · rw [pairs_succ]
            intro p hp
            rcases List.mem_append.1 hp with hp | hp
            · exact hgood p hp
            · rw [List.mem_singleton.1 hp]; exact hg
        case measure => simp [intOf]; omega
    · obtain rfl : j = k := by omega
      go_wp2
      go_ret3
      have hl : (pairs l j).length = j := by simp [pairs]
      obtain ⟨_, c', e1, hle, hmx⟩ := own_form hown
      injection e1 with _ _ e1
      subst e1
      refine ⟨hup, .inl ⟨A1, c1, ?_, ?_, ?_, hmx, hgood⟩⟩
      · rw [hl]; rfl
      · rw [hl]; exact hown
      · rw [hl]; exact hle
end Go.Proofs.Ytahlilogobfhcaa
