/-
  The graphic escapes: what Escape, Escaped and the reference's compute; the walk of PageEscapes. No condition.
-/
import Derived.Test.YthdoighlfoinaaaPage8
namespace Go.Proofs.Ythdoighlfoinaaa
open Go.RowKit Go.Maps
set_option linter.unusedVariables false
set_option linter.unusedSimpArgs false

def escC (j : Nat) : Int := (escL.getD j (0, 0)).1
def escS (j : Nat) : Int := (escL.getD j (0, 0)).2
theorem escL_len : escL.length = 19 := rfl
theorem escL_at {j : Nat} (h : j < 19) : escL[j]? = some (escC j, escS j) := by
  unfold escC escS
  rw [List.getD, List.getElem?_eq_getElem (by rw [escL_len]; exact h)]
  rfl
theorem esc_bd0 : ∀ j : Fin 19, (0 ≤ escC j.val ∧ escC j.val ≤ 255) ∧ 0 < escS j.val ∧ escS j.val ≤ 65535 := by decide +kernel
theorem esc_bd {j : Nat} (h : j < 19) : (0 ≤ escC j ∧ escC j ≤ 255) ∧ 0 < escS j ∧ escS j ≤ 65535 := esc_bd0 ⟨j, h⟩
/-- the row of a code, of a sign -/
def escFind (c : Int) : Option Nat := (List.range 19).find? fun j => escC j == c
def sgnFind (s : Int) : Option Nat := (List.range 19).find? fun j => escS j == s
def escOf (c : Int) : Int := match escFind c with | some j => escS j | none => 0
def escHas (c : Int) : Bool := (escFind c).isSome
def sgnOf (s : Int) : Int := match sgnFind s with | some j => escC j | none => 0
def sgnHas (s : Int) : Bool := (sgnFind s).isSome
theorem find_at {f : Nat → Bool} {n i : Nat} (hi : i < n) (hf : f i = true) (hn : ∀ j, j < i → f j = false) : (List.range n).find? f = some i := by
  rw [List.find?_range_eq_some]
  exact ⟨hf, List.mem_range.2 hi, fun d hd => by simp [hn d hd]⟩
theorem find_no {f : Nat → Bool} {n : Nat} (hn : ∀ j, j < n → f j = false) : (List.range n).find? f = none := by
  rw [List.find?_eq_none]
  intro d hd
  simp [hn d (List.mem_range.1 hd)]
theorem esc_hit {c : Int} {j : Nat} (hj : j < 19) (h : (escC j == c) = true) (hn : ∀ d, d < j → (escC d == c) = false) : escOf c = escS j ∧ escHas c = true := by
  unfold escOf escHas escFind
  rw [find_at hj h hn]
  exact ⟨rfl, rfl⟩
theorem esc_no {c : Int} (hn : ∀ d, d < 19 → (escC d == c) = false) : escOf c = 0 ∧ escHas c = false := by
  unfold escOf escHas escFind
  rw [find_no hn]
  exact ⟨rfl, rfl⟩
theorem sgn_hit {s : Int} {j : Nat} (hj : j < 19) (h : (escS j == s) = true) (hn : ∀ d, d < j → (escS d == s) = false) : sgnOf s = escC j ∧ sgnHas s = true := by
  unfold sgnOf sgnHas sgnFind
  rw [find_at hj h hn]
  exact ⟨rfl, rfl⟩
theorem sgn_no {s : Int} (hn : ∀ d, d < 19 → (escS d == s) = false) : sgnOf s = 0 ∧ sgnHas s = false := by
  unfold sgnOf sgnHas sgnFind
  rw [find_no hn]
  exact ⟨rfl, rfl⟩
theorem escHas_is (c : Int) : escHas c = (escOf c != 0) := by
  unfold escHas escOf
  cases h : escFind c with
  | none => rfl
  | some j =>
    have hj := List.mem_range.1 (List.mem_of_find?_eq_some h)
    have := (esc_bd hj).2.1
    simp only [Option.isSome_some]
    symm
    simp only [bne_iff_ne]
    omega
/-- the reference's code of a sign -/
def refHit (s : Int) (c : Nat) : Bool := escOf (c : Int) != 0 && escOf (c : Int) == s
def refE (s : Int) : Int := match (List.range 256).find? (refHit s) with | some c => (c : Int) | none => -1
theorem esc_all0 : ∀ c : Fin 256, escOf (c.val : Int) = 0 ∨ ∃ j : Fin 19, escOf (c.val : Int) = escS j.val ∧ (c.val : Int) = escC j.val := by decide +kernel
theorem esc_one0 : ∀ j d : Fin 19, escS j.val = escS d.val → j = d := by decide +kernel
theorem esc_back0 : ∀ j : Fin 19, escOf (escC j.val) = escS j.val := by decide +kernel
theorem refE_is (s : Int) : refE s = if sgnHas s then sgnOf s else -1 := by
  unfold sgnHas sgnOf
  cases h : sgnFind s with
  | none =>
    have hn : ∀ d, d < 19 → (escS d == s) = false := fun d hd => by
      have := List.find?_eq_none.1 h d (List.mem_range.2 hd)
      simpa using this
    unfold refE
    rw [find_no (f := refHit s) fun c hc => by
      unfold refHit
      rcases esc_all0 ⟨c, hc⟩ with h0 | ⟨j, h1, _⟩
      · simp only at h0; rw [h0]; rfl
      · simp only at h1
        rw [h1, hn j.val j.isLt, Bool.and_false]]
    rfl
  | some j =>
    have hj := List.mem_range.1 (List.mem_of_find?_eq_some h)
    have hs : escS j = s := by have := List.find?_some h; simpa using this
    obtain ⟨⟨h0, h1⟩, h2, h3⟩ := esc_bd hj
    have hb := esc_back0 ⟨j, hj⟩
    simp only at hb
    obtain ⟨c, hc⟩ : ∃ c : Nat, escC j = (c : Int) := ⟨(escC j).toNat, by omega⟩
    unfold refE
    rw [find_at (f := refHit s) (i := c) (by omega) (by unfold refHit; rw [← hc, hb, hs]; simp; omega) fun d hd => by
      unfold refHit
      rcases esc_all0 ⟨d, by omega⟩ with h0 | ⟨i, h1, h1'⟩
      · simp only at h0; rw [h0]; rfl
      · simp only at h1 h1'
        rw [h1]
        cases he : (escS i.val == s)
        · rw [Bool.and_false]
        · have he' : escS i.val = escS j := by rw [hs]; simpa using he
          have := esc_one0 i ⟨j, hj⟩ he'
          subst this
          simp only at h1'
          omega]
    simp only [Option.isSome_some, if_true]
    exact hc.symm
theorem lit_reads (w : World) (l : List (Int × Int)) (cs : Array Value) (t : TypeId) (h : cs.toList = l.flatMap encO) (n : Nat) (hn : n = l.length) :
    Reads (w.alloc (.cells cs t)) (w.alloc (.cells cs t)).heap.size 2 (some ⟨w.heap.size, 0, none⟩) n (l.flatMap encO) := by
  subst hn
  have hsz : cs.size = l.length * 2 := by
    rw [← Array.length_toList, h, flatMap_len (k := 2) (fun _ => rfl)]
  have := reads_at w w.heap.size 2 l.length cs t hsz rfl
  rw [h] at this
  simpa using this
theorem i32_pair {a b : Int} {x y : Bool} (h : a = b) (h' : x = y) : Ending.returned (.tuple #[.int .i32 a, .bool x]) = .returned (.tuple #[.int .i32 b, .bool y]) := by rw [h, h']
theorem u8_pair {a b : Int} {x y : Bool} (h : a = b) (h' : x = y) : Ending.returned (.tuple #[.int .u8 a, .bool x]) = .returned (.tuple #[.int .u8 b, .bool y]) := by rw [h, h']
set_option maxRecDepth 100000 in
set_option maxHeartbeats 1600000 in
theorem escapes_is (w : World) : Calls Try.prog 52 #[] w fun e w' => ∃ A c, e = .returned (.slice A 19 c) ∧ Reads w' w'.heap.size 2 A 19 (escL.flatMap encO) ∧ 19 ≤ c ∧ c ≤ 65536 ∧ Up w w' := by
  go_enter Try.func52, Try.ntmps52
  go_wp2
  go_ret
  exact ⟨some ⟨w.heap.size, 0, none⟩, 19, rfl, lit_reads w escL _ _ (by kernel_rfl) 19 rfl, by omega, by omega, (Up.refl w).alloc _⟩
set_option maxRecDepth 100000 in
set_option maxHeartbeats 1600000 in
theorem esc_is (c : Int) (w : World) : Calls Try.prog 22 #[.int .u8 c] w fun e w' => e = .returned (.tuple #[.int .i32 (escOf c), .bool (escHas c)]) ∧ Up w w' := by
  go_enter Try.func22, Try.ntmps22
  go_wp2_with (go_at_call 52; refine (escapes_is _).mono ?_; rintro e w1 ⟨A, k, rfl, hrd, hk, hk2, hu1⟩)
  obtain ⟨g, off, rfl, hgb⟩ := hrd.form (by omega)
  have HRD := Lib.hid hrd
  clear hrd
  go_loopw [8] (fun q wr => ∃ j : Nat, j ≤ 19 ∧ q = .int .i64 (j : Int) ∧ Up w1 wr ∧ ∀ d, d < j → (escC d == c) = false) (fun q _ => 19 - (intOf q).toNat)
  case atStart => exact ⟨0, by omega, rfl, Up.refl w1, fun d hd => absurd hd (by omega)⟩
  case round =>
    obtain ⟨j, hj, rfl, hu, hno⟩ := hrel
    by_cases hlt : j < 19
    · have hra := row_at (k := 2) (enc := encO) (fun _ => rfl) HRD.out (escL_at hlt) (by omega)
      have hga := (hu.at_ g hgb).1
      obtain ⟨⟨hx0, hx1⟩, hy0, hy1⟩ := esc_bd hlt
      have hc0 : wr.cell? ⟨g, off + j * 2, none⟩ = some (.int .u8 (escC j)) := (hga _).trans (hra 0 _ rfl)
      have hc1 : wr.cell? ⟨g, off + j * 2 + 1, none⟩ = some (.int .u16 (escS j)) := (hga _).trans (hra 1 _ rfl)
      have hgr : g < wr.heap.size := by have := hu.size; omega
      cases hcv : (escC j == c)
      · have HH : Hid ((escC j == c) = false) := Lib.hid hcv
        clear hra hga
        generalize hxx : escC j = x at *
        generalize hyy : escS j = y at *
        have HX := Lib.hid hxx
        have HY := Lib.hid hyy
        clear hxx hyy
        go_wp2
        go_roundw
        case rel => exact ⟨j + 1, by omega, by go_num, by (repeat (first | with_reducible exact Up.refl _ | with_reducible refine Up.alloc ?_ _ | with_reducible refine Up.drew ?_ | with_reducible refine Up.drewN ?_ _ | with_reducible refine Up.setCell ?_ (by (try simp) <;> omega) _ | with_reducible assumption | with_reducible refine Up.trans ?_ (by assumption))), fun d hd => by
          rcases Nat.lt_or_ge d j with h | h
          · exact hno d h
          · obtain rfl : d = j := by omega
            rw [HX.out]; exact HH.out⟩
        case measure => simp [intOf]; omega
      · obtain ⟨he1, he2⟩ := esc_hit hlt hcv hno
        have HE1 := Lib.hid he1
        have HE2 := Lib.hid he2
        clear hra hga he1 he2
        generalize hxx : escC j = x at *
        generalize hyy : escS j = y at *
        have HX := Lib.hid hxx
        have HY := Lib.hid hyy
        clear hxx hyy
        go_wp2
        go_ret2
        exact ⟨i32_pair HE1.out.symm HE2.out.symm, by (repeat (first | with_reducible exact Up.refl _ | with_reducible refine Up.alloc ?_ _ | with_reducible refine Up.drew ?_ | with_reducible refine Up.drewN ?_ _ | with_reducible refine Up.setCell ?_ (by (try simp) <;> omega) _ | with_reducible assumption | with_reducible refine Up.trans ?_ (by assumption)))⟩
    · obtain ⟨he1, he2⟩ := esc_no (c := c) (fun d hd => hno d (by omega))
      have HE1 := Lib.hid he1
      have HE2 := Lib.hid he2
      clear he1 he2
      go_wp2
      go_ret2
      exact ⟨i32_pair HE1.out.symm HE2.out.symm, by (repeat (first | with_reducible exact Up.refl _ | with_reducible refine Up.alloc ?_ _ | with_reducible refine Up.drew ?_ | with_reducible refine Up.drewN ?_ _ | with_reducible refine Up.setCell ?_ (by (try simp) <;> omega) _ | with_reducible assumption | with_reducible refine Up.trans ?_ (by assumption)))⟩
set_option maxRecDepth 100000 in
set_option maxHeartbeats 1600000 in
theorem escd_is (s : Int) (w : World) : Calls Try.prog 23 #[.int .i32 s] w fun e w' => e = .returned (.tuple #[.int .u8 (sgnOf s), .bool (sgnHas s)]) ∧ Up w w' := by
  go_enter Try.func23, Try.ntmps23
  go_wp2_with (go_at_call 52; refine (escapes_is _).mono ?_; rintro e w1 ⟨A, k, rfl, hrd, hk, hk2, hu1⟩)
  obtain ⟨g, off, rfl, hgb⟩ := hrd.form (by omega)
  have HRD := Lib.hid hrd
  clear hrd
  go_loopw [8] (fun q wr => ∃ j : Nat, j ≤ 19 ∧ q = .int .i64 (j : Int) ∧ Up w1 wr ∧ ∀ d, d < j → (escS d == s) = false) (fun q _ => 19 - (intOf q).toNat)
  case atStart => exact ⟨0, by omega, rfl, Up.refl w1, fun d hd => absurd hd (by omega)⟩
  case round =>
    obtain ⟨j, hj, rfl, hu, hno⟩ := hrel
    by_cases hlt : j < 19
    · have hra := row_at (k := 2) (enc := encO) (fun _ => rfl) HRD.out (escL_at hlt) (by omega)
      have hga := (hu.at_ g hgb).1
      obtain ⟨⟨hx0, hx1⟩, hy0, hy1⟩ := esc_bd hlt
      have hc0 : wr.cell? ⟨g, off + j * 2, none⟩ = some (.int .u8 (escC j)) := (hga _).trans (hra 0 _ rfl)
      have hc1 : wr.cell? ⟨g, off + j * 2 + 1, none⟩ = some (.int .u16 (escS j)) := (hga _).trans (hra 1 _ rfl)
      have hgr : g < wr.heap.size := by have := hu.size; omega
      cases hcv : (escS j == s)
      · have HH : Hid ((escS j == s) = false) := Lib.hid hcv
        clear hra hga
        generalize hxx : escC j = x at *
        generalize hyy : escS j = y at *
        have HX := Lib.hid hxx
        have HY := Lib.hid hyy
        clear hxx hyy
        go_wp2
        go_roundw
        case rel => exact ⟨j + 1, by omega, by go_num, by (repeat (first | with_reducible exact Up.refl _ | with_reducible refine Up.alloc ?_ _ | with_reducible refine Up.drew ?_ | with_reducible refine Up.drewN ?_ _ | with_reducible refine Up.setCell ?_ (by (try simp) <;> omega) _ | with_reducible assumption | with_reducible refine Up.trans ?_ (by assumption))), fun d hd => by
          rcases Nat.lt_or_ge d j with h | h
          · exact hno d h
          · obtain rfl : d = j := by omega
            rw [HY.out]; exact HH.out⟩
        case measure => simp [intOf]; omega
      · obtain ⟨he1, he2⟩ := sgn_hit hlt hcv hno
        have HE1 := Lib.hid he1
        have HE2 := Lib.hid he2
        clear hra hga he1 he2
        generalize hxx : escC j = x at *
        generalize hyy : escS j = y at *
        have HX := Lib.hid hxx
        have HY := Lib.hid hyy
        clear hxx hyy
        go_wp2
        go_ret2
        exact ⟨u8_pair HE1.out.symm HE2.out.symm, by (repeat (first | with_reducible exact Up.refl _ | with_reducible refine Up.alloc ?_ _ | with_reducible refine Up.drew ?_ | with_reducible refine Up.drewN ?_ _ | with_reducible refine Up.setCell ?_ (by (try simp) <;> omega) _ | with_reducible assumption | with_reducible refine Up.trans ?_ (by assumption)))⟩
    · obtain ⟨he1, he2⟩ := sgn_no (s := s) (fun d hd => hno d (by omega))
      have HE1 := Lib.hid he1
      have HE2 := Lib.hid he2
      clear he1 he2
      go_wp2
      go_ret2
      exact ⟨u8_pair HE1.out.symm HE2.out.symm, by (repeat (first | with_reducible exact Up.refl _ | with_reducible refine Up.alloc ?_ _ | with_reducible refine Up.drew ?_ | with_reducible refine Up.drewN ?_ _ | with_reducible refine Up.setCell ?_ (by (try simp) <;> omega) _ | with_reducible assumption | with_reducible refine Up.trans ?_ (by assumption)))⟩
end Go.Proofs.Ythdoighlfoinaaa
