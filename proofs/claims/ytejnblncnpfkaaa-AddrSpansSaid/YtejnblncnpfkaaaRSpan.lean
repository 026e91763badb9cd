/-
  The reference's Span; slices.Equal over ints. No condition.
-/
import Derived.Test.YtejnblncnpfkaaaCollI
import Derived.Test.YtejnblncnpfkaaaSpan
namespace Go.Proofs.Ytejnblncnpfkaaa
open Go.RowKit
set_option linter.unusedVariables false
set_option linter.unusedSimpArgs false

theorem lit_i64 (W : World) (x : Int) (base : Nat) (hb : base ≤ W.heap.size) (g : Nat) (hg : g = W.heap.size) : (W.alloc (.cells #[.int .i64 x] 3)).ownsRow base 3 1 (.slice (some ⟨g, 0, none⟩) 1 1) 1 (ns [x]) := by
  subst hg
  have := World.ownsRow_lit (base := base) (size := 1) (e := 3) W #[.int .i64 x] 1 hb (by simp [maxLen]) rfl
  simpa [ns] using this
def vlen : Value → Nat
  | .slice _ n _ => n
  | _ => 0
theorem next_step (a m : Int) (k : Nat) : ((a + (k : Int)) % m + 1) % m = (a + ((k + 1 : Nat) : Int)) % m := by
  rw [Int.emod_add_emod]
  congr 1
  omega
set_option maxHeartbeats 800000 in
theorem rspan_bad (r c f t : Int) (w : World) (h : validB r c = false) :
    Calls Try.prog 35 #[.agg #[.int .i64 r, .int .i64 c], .int .i64 f, .int .i64 t] w fun e w' => e = .returned (.slice none 0 0) ∧ Up w w' := by
  go_enter Try.func35, Try.ntmps35
  go_wp2_with fail
  refine (ref_valid_is h _).mono ?_
  rintro e w1 ⟨rfl, hb_w1⟩
  have hu_w1 : Up w w1 := by (repeat (first | with_reducible exact Up.refl _ | with_reducible refine Up.alloc ?_ _ | with_reducible refine Up.drew ?_ | with_reducible refine Up.drewN ?_ _ | with_reducible refine Up.setCell ?_ (by (try simp) <;> omega) _ | with_reducible assumption | with_reducible refine Up.trans ?_ (by assumption)))
  have hz_w1 := Up.size hb_w1
  try simp at hz_w1
  obtain ⟨bd_w1_0, be_w1_0⟩ := hb_w1.at_ (w.heap.size) (by (try simp) <;> omega)
  have zb_w1_0 : w.heap.size < w1.heap.size := by omega
  go_wp2_with fail
  go_ret
  exact ⟨rfl, by (repeat (first | with_reducible exact Up.refl _ | with_reducible refine Up.alloc ?_ _ | with_reducible refine Up.drew ?_ | with_reducible refine Up.drewN ?_ _ | with_reducible refine Up.setCell ?_ (by (try simp) <;> omega) _ | with_reducible assumption | with_reducible refine Up.trans ?_ (by assumption)))⟩
set_option maxRecDepth 100000 in
set_option maxHeartbeats 3200000 in
theorem rspan_good {r c f t m : Int} {n : Nat} {w : World} (h : validB r c = true) (hm : r * c = m) (hn : (n : Int) = lenN r c f t) :
    Calls Try.prog 35 #[.agg #[.int .i64 r, .int .i64 c], .int .i64 f, .int .i64 t] w fun e w' => ∃ A c', e = .returned (.slice A n c') ∧ w'.ownsRow w.heap.size 3 1 (.slice A n c') n (ns (placesN (f % m) m n)) ∧ n ≤ c' ∧ c' ≤ maxLen ∧ Up w w' := by
  obtain ⟨i0, hi, hz0, hz1, hz2⟩ := info_parts info_i64
  obtain ⟨h0, h1, h2, h3, h4, h5⟩ := valid_facts h
  have HWr := Lib.hid (fun x W => by have := ref_wrap_good r c x W h; rw [hm] at this; exact this)
  have HCe := Lib.hid (fun W => by have := ref_cells_good r c W h; rw [hm] at this; exact this)
  unfold lenN at hn
  rw [hm] at h4 h5 hn
  have HMo := Lib.hid (fun x W => mod_is x m W h4 (by omega))
  have hlb := len_bd h4 hn
  have ha0 := Int.emod_nonneg f (show m ≠ 0 by omega)
  have ha1 := Int.emod_lt_of_pos f (show 0 < m by omega)
  have HST := Lib.hid (fun (k : Nat) (k0 : 0 < k) (kn : (k : Int) ≤ n) => step_end (f := f) (t := t) (m := m) (n := k) h4 hn k0 kn)
  have HV := Lib.hid h
  clear hn hm h
  have HBM := Lib.hid (fun (x : Int) => (show 0 ≤ x % m ∧ x % m < m from ⟨Int.emod_nonneg x (by omega), Int.emod_lt_of_pos x (by omega)⟩))
  obtain ⟨a, hae⟩ : ∃ a, f % m = a := ⟨_, rfl⟩
  obtain ⟨b, hbe⟩ : ∃ b, t % m = b := ⟨_, rfl⟩
  have HWa := Lib.hid (fun W => by have := HWr.out f W; rw [hae] at this; exact this)
  have HWb := Lib.hid (fun W => by have := HWr.out t W; rw [hbe] at this; exact this)
  rw [hae] at ha0 ha1 HST ⊢
  rw [hbe] at HST
  clear hae hbe HWr
  go_enter Try.func35, Try.ntmps35
  go_wp2_with fail
  refine (ref_valid_is HV.out _).mono ?_
  rintro e w1 ⟨rfl, hb_w1⟩
  have hu_w1 : Up w w1 := by (repeat (first | with_reducible exact Up.refl _ | with_reducible refine Up.alloc ?_ _ | with_reducible refine Up.drew ?_ | with_reducible refine Up.drewN ?_ _ | with_reducible refine Up.setCell ?_ (by (try simp) <;> omega) _ | with_reducible assumption | with_reducible refine Up.trans ?_ (by assumption)))
  have hz_w1 := Up.size hb_w1
  try simp at hz_w1
  obtain ⟨bd_w1_0, be_w1_0⟩ := hb_w1.at_ (w.heap.size) (by (try simp) <;> omega)
  have zb_w1_0 : w.heap.size < w1.heap.size := by omega
  go_wp2_with fail
  refine wp_region_up_lit (by kernel_rfl) (by kernel_rfl) ?_
  repeat (go_big_quiet_step (first | (go_at_call 30; with_reducible exact up_call (HWa.out _)) | (go_at_call 30; with_reducible exact up_call (HWb.out _))))
  refine wpQuiet_nil ?_
  rintro w2 ⟨W_w2, hw_w2⟩
  have hb_w2 : Up _ w2 := hw_w2 ▸ up_upOf _ _
  clear hw_w2 W_w2
  have hu_w2 : Up w1 w2 := by (repeat (first | with_reducible exact Up.refl _ | with_reducible refine Up.alloc ?_ _ | with_reducible refine Up.drew ?_ | with_reducible refine Up.drewN ?_ _ | with_reducible refine Up.setCell ?_ (by (try simp) <;> omega) _ | with_reducible assumption | with_reducible refine Up.trans ?_ (by assumption)))
  have hz_w2 := Up.size hb_w2
  try simp at hz_w2
  obtain ⟨bc_w2_0, bf_w2_0⟩ := hu_w2.at_ (w.heap.size) (by omega)
  have zb_w2_0 : w.heap.size < w2.heap.size := by omega
  go_wp2_with fail
  refine (HCe.out _).mono ?_
  rintro e w3 ⟨rfl, hb_w3⟩
  have hu_w3 : Up w2 w3 := by (repeat (first | with_reducible exact Up.refl _ | with_reducible refine Up.alloc ?_ _ | with_reducible refine Up.drew ?_ | with_reducible refine Up.drewN ?_ _ | with_reducible refine Up.setCell ?_ (by (try simp) <;> omega) _ | with_reducible assumption | with_reducible refine Up.trans ?_ (by assumption)))
  have hz_w3 := Up.size hb_w3
  try simp at hz_w3
  obtain ⟨bc_w3_0, bf_w3_0⟩ := hu_w3.at_ (w.heap.size) (by omega)
  have zb_w3_0 : w.heap.size < w3.heap.size := by omega
  go_wp2_with fail
  refine (HMo.out _ _).mono ?_
  rintro e w' ⟨rfl, rfl⟩
  have UW := Lib.hid (show Up (w.alloc (.cells #[.int .i64 r, .int .i64 c] 28)) w3 by (repeat (first | with_reducible exact Up.refl _ | with_reducible refine Up.alloc ?_ _ | with_reducible refine Up.drew ?_ | with_reducible refine Up.drewN ?_ _ | with_reducible refine Up.setCell ?_ (by (try simp) <;> omega) _ | with_reducible assumption | with_reducible refine Up.trans ?_ (by assumption))))
  have hz3 := UW.out.size
  simp at hz3
  have hl1 := own_up (lit_i64 w2 a (w.heap.size + 1) (by omega) w2.heap.size rfl) hb_w3
  have HB2 := Lib.hid (show w.heap.size + 1 ≤ w3.heap.size by omega)
  have hpl : placesN a m 1 = [a] := by
    have : a % m = a := Int.emod_eq_of_lt ha0 ha1
    simp [placesN, this]
  rw [← hpl] at hl1
  clear hpl
  go_wp2_with fail
  go_loopw [9, 10] (fun v q wr => ∃ (j : Nat) (A1 : Option Addr) (c1 : Nat), j + 1 ≤ n ∧ v = .slice A1 (j + 1) c1 ∧ q = .int .i64 ((a + ((j + 1 : Nat) : Int)) % m) ∧ wr.ownsRow (w.heap.size + 1) 3 1 (.slice A1 (j + 1) c1) (j + 1) (ns (placesN a m (j + 1))) ∧ Up (w.alloc (.cells #[.int .i64 r, .int .i64 c] 28)) wr) (fun v _ _ => n - vlen v)
  case atStart => exact ⟨0, _, _, by omega, rfl, rfl, hl1, UW.out⟩
  case round =>
    obtain ⟨j, A1, c1, hj, rfl, rfl, hown, hup⟩ := hrel
    have bx := (hup.at_ w.heap.size (by simp)).1
    have hsz := hup.size
    simp at hsz
    have zbr : w.heap.size < wr.heap.size := by omega
    have hst := HST.out (j + 1) (by omega) (by omega)
    have HN := Lib.hid (next_step a m (j + 1))
    have hxb := HBM.out (a + ((j + 1 : Nat) : Int))
    have HUP := Lib.hid hup
    clear hup
    by_cases hend : j + 1 = n
    · have hor := hst.2 (by omega)
      clear hst
      subst hend
      generalize (a + ((j + 1 : Nat) : Int)) % m = x at *
      rcases Bool.eq_false_or_eq_true (x != b) with e1 | e1
      · have e2 : (x != a) = false := by
          rcases hor with h | h
          · simp [h] at e1
          · simp [h]
        clear hor
        go_wp2
        go_ret
        obtain ⟨_, c', e1, hle, hmx⟩ := own_form hown
        injection e1 with _ _ e1
        subst e1
        exact ⟨A1, c1, rfl, own_base hown (by omega), hle, hmx, (Up.alloc (Up.refl w) _).trans HUP.out⟩
      · clear hor
        go_wp2
        go_ret
        obtain ⟨_, c', e1, hle, hmx⟩ := own_form hown
        injection e1 with _ _ e1
        subst e1
        exact ⟨A1, c1, rfl, own_base hown (by omega), hle, hmx, (Up.alloc (Up.refl w) _).trans HUP.out⟩
    · have hlt : j + 2 ≤ n := by omega
      have hno : ¬ ((a + ((j + 1 : Nat) : Int)) % m = b ∨ (a + ((j + 1 : Nat) : Int)) % m = a) := fun h => by have := hst.1 h; omega
      have HSU := Lib.hid (placesN_succ a m (j + 1))
      clear hst hend
      generalize (a + ((j + 1 : Nat) : Int)) % m = x at *
      have e1 : (x != b) = true := by simp; intro h; exact hno (.inl h)
      have e2 : (x != a) = true := by simp; intro h; exact hno (.inr h)
      have hq1 : j + 1 + 1 ≤ maxLen := by simp [maxLen]; omega
      have HSN := Lib.hid (show ns (placesN a m (j + 1 + 1)) = ns (placesN a m (j + 1)) ++ [.int .i64 x] by rw [HSU.out, ns_snoc])
      clear hno
      go_wp2_with (at_builtin; refine wpList_app _ rfl (.tmp 40) (.tmp 42) 58 rfl (w.heap.size + 1) 3 i0 _ 1 8 Try.underlying58 hi hz0 hz1 hz2 rfl (by decide) A1 (j + 1) c1 _ rfl (own_up hown ((Up.refl _).alloc _)) _ _ 1 1 _ rfl (reads_at _ _ 1 1 _ _ rfl (by simp)) (by simp [Value.oneCell']) hq1 (by omega) (by simp; omega) ?_; intro A2 c2 w5 hown5 hg5 hle5 hmx5 hbl5; have HO5 := Lib.hid hown5; have g0 := fun o => hbl5.cell (p := ⟨w.heap.size, o, none⟩) (Nat.lt_succ_self w.heap.size); have zb5 : w.heap.size < w5.heap.size := (by have := hbl5.size; (try simp at this) <;> omega); clear hown5 hg5)
      refine (HCe.out _).mono ?_
      rintro e w6 ⟨rfl, hu6⟩
      go_wp2_with fail
      refine (HMo.out _ _).mono ?_
      rintro e w' ⟨rfl, rfl⟩
      go_wp2
      go_roundw
      case rel =>
        refine ⟨j + 1, A2, c2, by omega, rfl, by rw [HN.out], ?_, ?_⟩
        · rw [HSN.out]; exact own_up HO5.out hu6
        · exact ((Up.past ((HUP.out).alloc _) (Below.mono hbl5 (by simp))).trans hu6)
      case measure => simp [vlen]; omega
end Go.Proofs.Ytejnblncnpfkaaa
