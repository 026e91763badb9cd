/-
  What attr's Bytes and the reference's Bytes compute. No condition.
-/
import Derived.Test.YtockighgdkebaaaLaw05c
namespace Go.Proofs.Ytockighgdkebaaa
open Go.RowKit
set_option linter.unusedVariables false
set_option linter.unusedSimpArgs false

def flat (L : List (Int × Int)) : List Int := L.flatMap fun p => [p.1, p.2]
theorem flat_snoc (L : List (Int × Int)) (p : Int × Int) : flat (L ++ [p]) = flat L ++ [p.1, p.2] := by simp [flat, List.flatMap_append]
theorem flat_len : ∀ (L : List (Int × Int)), (flat L).length = 2 * L.length
  | [] => rfl
  | p :: L => by simp [flat, List.flatMap_cons]; have := flat_len L; simp [flat] at this; omega
/-- what becomes of the bytes -/
def BPost (base : Nat) (L : List (Int × Int)) (w : World) (e : Ending) (w' : World) : Prop :=
  Up w w' ∧ ((∃ A c, e = .returned (.tuple #[.slice A (1 + 2 * L.length) c, .int .i64 0]) ∧ w'.ownsRow base 5 1 (.slice A (1 + 2 * L.length) c) (1 + 2 * L.length) (bs ((L.length : Int) :: flat L)) ∧ 1 + 2 * L.length ≤ c ∧ c ≤ maxLen ∧ ∀ p ∈ L, goodB p = true) ∨
    (e = .returned (.tuple #[.slice none 0 0, .int .i64 10]) ∧ ∃ p ∈ L, goodB p = false))
theorem BPost.good {base : Nat} {L : List (Int × Int)} {w w' : World} {e : Ending} (h : BPost base L w e w') (hg : ∀ p ∈ L, goodB p = true) :
    ∃ A c, e = .returned (.tuple #[.slice A (1 + 2 * L.length) c, .int .i64 0]) ∧ Up w w' ∧ w'.ownsRow base 5 1 (.slice A (1 + 2 * L.length) c) (1 + 2 * L.length) (bs ((L.length : Int) :: flat L)) ∧ 1 + 2 * L.length ≤ c ∧ c ≤ maxLen := by
  obtain ⟨hu, ⟨A, c, he, ho, h1, h2, _⟩ | ⟨_, p, hp, hb⟩⟩ := h
  · exact ⟨A, c, he, hu, ho, h1, h2⟩
  · rw [hg p hp] at hb; cases hb
theorem BPost.bad {base : Nat} {L : List (Int × Int)} {w w' : World} {e : Ending} (h : BPost base L w e w') (hg : ∃ p ∈ L, goodB p = false) :
    e = .returned (.tuple #[.slice none 0 0, .int .i64 10]) ∧ Up w w' := by
  obtain ⟨hu, ⟨A, c, he, ho, h1, h2, hall⟩ | ⟨he, _⟩⟩ := h
  · obtain ⟨p, hp, hb⟩ := hg
    rw [hall p hp] at hb; cases hb
  · exact ⟨he, hu⟩

set_option maxHeartbeats 400000 in
theorem bytes_long (A : Option Addr) (n c : Nat) (w : World) (hn : 255 < n) (hc : n ≤ 9223372036854775807) :
    Calls Try.prog 29 #[.slice A n c] w fun e w' => e = .returned (.tuple #[.slice none 0 0, .int .i64 3]) ∧ w = w' := by
  go_enter Try.func29, Try.ntmps29
  go_wp2
  go_ret2
  exact ⟨rfl, rfl⟩
set_option maxHeartbeats 800000 in
theorem bytes_any (A : Option Addr) (n c : Nat) (L : List (Int × Int)) (w : World) (hr : Reads w w.heap.size 2 A n (ps L)) (hn : n ≤ 255) :
    Calls Try.prog 29 #[.slice A n c] w (BPost w.heap.size L w) := by
  have hl : L.length = n := by have := hr.1; rw [ps_len] at this; omega
  obtain ⟨i0, hi, hz0, hz1, hz2⟩ := info_parts info_u8
  go_enter Try.func29, Try.ntmps29
  go_wp2
  go_loopw [4, 17] (fun v i wr => ∃ (j m : Nat) (A1 : Option Addr) (c1 : Nat), j ≤ n ∧ m = 1 + 2 * j ∧ i = .int .i64 (j : Int) ∧ v = .slice A1 m c1 ∧ wr.ownsRow w.heap.size 5 1 (.slice A1 m c1) m (bs ((n : Int) :: flat (L.take j))) ∧ Up w wr ∧ ∀ p ∈ L.take j, goodB p = true)
    (fun _ i _ => n - (intOf i).toNat)
  case atStart =>
    exact ⟨0, 1, _, 1, by omega, rfl, rfl, rfl, World.ownsRow_lit w _ 1 (Nat.le_refl _) (by simp [maxLen]) rfl, (Up.refl _).alloc _, by simp⟩
  case round =>
    obtain ⟨j, m, A1, c1, hj, hm, rfl, rfl, hown, hup, hgood⟩ := hrel
    have HM := Lib.hid hm
    have hmb : m ≤ 600 := by omega
    have hm2 : m + 2 ≤ maxLen := by simp [maxLen]; omega
    clear hm
    by_cases hlt : j < n
    · obtain ⟨b, off, rfl, hb⟩ := hr.form (by omega)
      obtain ⟨hca, hcb, _⟩ := reads_ps (hr.below hup) j hlt
      have hbw : b < wr.heap.size := by have := hup.size; omega
      have hge : L[j]? = some (L.getD j (0, 0)) := by simp [List.getD, List.getElem?_eq_getElem (show j < L.length by omega)]
      have hts : L.take (j + 1) = L.take j ++ [L.getD j (0, 0)] := by
        rw [List.take_succ_eq_append_getElem (by omega)]
        simp [List.getD, List.getElem?_eq_getElem (show j < L.length by omega)]
      have hmem := List.mem_of_getElem? hge
      have HT := Lib.hid hts
      clear hts hge
      generalize L.getD j (0, 0) = p at *
      cases hg : goodB p
      · go_wp2_with (go_at_call 20; refine (check_bad hg _).mono ?_; rintro e w3 ⟨rfl, hu3⟩; obtain ⟨bc3, bf3⟩ := hu3.at_ wr.heap.size (by simp))
        go_ret2
        exact ⟨(hup.alloc _).trans hu3, .inr ⟨rfl, p, hmem, hg⟩⟩
      · go_wp2_with (first | (go_at_call 20; refine (check_good hg _).mono ?_; rintro e w3 ⟨rfl, hu3⟩; obtain ⟨bc3, bf3⟩ := hu3.at_ wr.heap.size (by simp)) | (at_builtin; refine wpList_app _ rfl (.tmp 26) (.tmp 31) 47 rfl w.heap.size 5 i0 _ 1 1 Try.underlying47 hi hz0 hz1 hz2 rfl (by decide) A1 m c1 _ rfl (own_up hown ((((Up.refl _).alloc _).trans hu3).alloc _)) _ _ 2 2 _ rfl (reads_at _ _ 1 2 _ _ rfl (by simp)) (by simp [Value.oneCell']) hm2 (by omega) (by have h1 := hup.size; have h2 := hu3.size; simp at h2 ⊢; omega) ?_; intro A2 c2 w4 hown4 hg4 hle4 hmx4 hbl4))
        go_roundw
        case rel =>
          refine ⟨j + 1, m + 2, A2, c2, by omega, by have := HM.out; omega, by go_num, rfl, ?_, (((hup.alloc _).trans hu3).alloc _).past hbl4, ?_⟩
          · rw [HT.out, flat_snoc]
            simpa [bs] using hown4
          · rw [HT.out]
            intro q hq
            rcases List.mem_append.1 hq with hq | hq
            · exact hgood q hq
            · rw [List.mem_singleton.1 hq]; exact hg
        case measure => simp [intOf]; omega
    · obtain rfl : j = n := by omega
      go_wp2
      go_ret2
      obtain ⟨_, c', e1, hle, hmx⟩ := own_form hown
      injection e1 with _ _ e1
      subst e1
      rw [List.take_of_length_le (by omega)] at hown hgood
      have hml : m = 1 + 2 * L.length := by have := HM.out; omega
      refine ⟨hup, .inl ⟨A1, c1, ?_, ?_, ?_, hmx, hgood⟩⟩
      · rw [← hml]; rfl
      · rw [← hml, hl]; exact hown
      · rw [← hml]; exact hle
set_option maxHeartbeats 400000 in
theorem ref_bytes_long (A : Option Addr) (n c : Nat) (w : World) (hn : 255 < n) (hc : n ≤ 9223372036854775807) :
    Calls Try.prog 30 #[.slice A n c] w fun e w' => e = .returned (.tuple #[.slice none 0 0, .int .i64 3]) ∧ w = w' := by
  go_enter Try.func30, Try.ntmps30
  go_wp2
  go_ret2
  exact ⟨rfl, rfl⟩
set_option maxHeartbeats 800000 in
theorem ref_bytes_any (A : Option Addr) (n c : Nat) (L : List (Int × Int)) (w : World) (hr : Reads w w.heap.size 2 A n (ps L)) (hn : n ≤ 255) :
    Calls Try.prog 30 #[.slice A n c] w (BPost w.heap.size L w) := by
  have hl : L.length = n := by have := hr.1; rw [ps_len] at this; omega
  obtain ⟨i0, hi, hz0, hz1, hz2⟩ := info_parts info_u8
  go_enter Try.func30, Try.ntmps30
  go_wp2
  go_loopw [4, 16] (fun v i wr => ∃ (j m : Nat) (A1 : Option Addr) (c1 : Nat), j ≤ n ∧ m = 1 + 2 * j ∧ i = .int .i64 (j : Int) ∧ v = .slice A1 m c1 ∧ wr.ownsRow w.heap.size 5 1 (.slice A1 m c1) m (bs ((n : Int) :: flat (L.take j))) ∧ Up w wr ∧ ∀ p ∈ L.take j, goodB p = true)
    (fun _ i _ => n - (intOf i).toNat)
  case atStart =>
    exact ⟨0, 1, _, 1, by omega, rfl, rfl, rfl, World.ownsRow_lit w _ 1 (Nat.le_refl _) (by simp [maxLen]) rfl, (Up.refl _).alloc _, by simp⟩
  case round =>
    obtain ⟨j, m, A1, c1, hj, hm, rfl, rfl, hown, hup, hgood⟩ := hrel
    have HM := Lib.hid hm
    have hmb : m ≤ 600 := by omega
    have hm2 : m + 2 ≤ maxLen := by simp [maxLen]; omega
    clear hm
    by_cases hlt : j < n
    · obtain ⟨b, off, rfl, hb⟩ := hr.form (by omega)
      obtain ⟨hca, hcb, _⟩ := reads_ps (hr.below hup) j hlt
      have hbw : b < wr.heap.size := by have := hup.size; omega
      have hge : L[j]? = some (L.getD j (0, 0)) := by simp [List.getD, List.getElem?_eq_getElem (show j < L.length by omega)]
      have hts : L.take (j + 1) = L.take j ++ [L.getD j (0, 0)] := by
        rw [List.take_succ_eq_append_getElem (by omega)]
        simp [List.getD, List.getElem?_eq_getElem (show j < L.length by omega)]
      have hmem := List.mem_of_getElem? hge
      have HT := Lib.hid hts
      clear hts hge
      generalize L.getD j (0, 0) = p at *
      cases hg : goodB p
      · go_wp2_with (go_at_call 21; refine (right_is hg _).mono ?_; rintro e w3 ⟨rfl, hu3⟩; obtain ⟨bc3, bf3⟩ := hu3.at_ wr.heap.size (by simp))
        go_ret2
        exact ⟨(hup.alloc _).trans hu3, .inr ⟨rfl, p, hmem, hg⟩⟩
      · go_wp2_with (first | (go_at_call 21; refine (right_is hg _).mono ?_; rintro e w3 ⟨rfl, hu3⟩; obtain ⟨bc3, bf3⟩ := hu3.at_ wr.heap.size (by simp)) | (at_builtin; refine wpList_app _ rfl (.tmp 23) (.tmp 28) 47 rfl w.heap.size 5 i0 _ 1 1 Try.underlying47 hi hz0 hz1 hz2 rfl (by decide) A1 m c1 _ rfl (own_up hown ((((Up.refl _).alloc _).trans hu3).alloc _)) _ _ 2 2 _ rfl (reads_at _ _ 1 2 _ _ rfl (by simp)) (by simp [Value.oneCell']) hm2 (by omega) (by have h1 := hup.size; have h2 := hu3.size; simp at h2 ⊢; omega) ?_; intro A2 c2 w4 hown4 hg4 hle4 hmx4 hbl4))
        go_roundw
        case rel =>
          refine ⟨j + 1, m + 2, A2, c2, by omega, by have := HM.out; omega, by go_num, rfl, ?_, (((hup.alloc _).trans hu3).alloc _).past hbl4, ?_⟩
          · rw [HT.out, flat_snoc]
            simpa [bs] using hown4
          · rw [HT.out]
            intro q hq
            rcases List.mem_append.1 hq with hq | hq
            · exact hgood q hq
            · rw [List.mem_singleton.1 hq]; exact hg
        case measure => simp [intOf]; omega
    · obtain rfl : j = n := by omega
      go_wp2
      go_ret2
      obtain ⟨_, c', e1, hle, hmx⟩ := own_form hown
      injection e1 with _ _ e1
      subst e1
      rw [List.take_of_length_le (by omega)] at hown hgood
      have hml : m = 1 + 2 * L.length := by have := HM.out; omega
      refine ⟨hup, .inl ⟨A1, c1, ?_, ?_, ?_, hmx, hgood⟩⟩
      · rw [← hml]; rfl
      · rw [← hml, hl]; exact hown
      · rw [← hml]; exact hle
end Go.Proofs.Ytockighgdkebaaa
