/-
  The reference's Span; slices.Equal over ints. No condition.
  The document's Open. No condition.
  The document's Next: the nearest first place. No condition.
  Plain: the document's Unprotected and Range are the program's. No condition.
  The document's Repeat, Range. No condition.
  The document's Unprotected. No condition.
  The document's Rest, End. No condition.
  The document's codes, move, End. No condition.
  The document's End. No condition.
  The document's Delete. No condition.
  The document's Insert. No condition.
  The law's do and the document's Do, of any act. No condition.
-/
import Derived.Test.YtjokcfenncogkaaCollI
import Derived.Test.YtjokcfenncogkaaSpan
import Derived.Test.YtjokcfenncogkaaOf13
import Derived.Test.YtjokcfenncogkaaRf13c
import Derived.Test.YtjokcfenncogkaaDo4All
import Derived.Test.YtjokcfenncogkaaFt13
import Derived.ArgAppend
import Derived.Deep.RegionLaw
import Derived.IntWalk
namespace Go.Proofs.Ytjokcfenncogkaa
open Go.RowKit
set_option linter.unusedVariables false
set_option linter.unusedSimpArgs false

theorem lit_i64 (W : World) (x : Int) (base : Nat) (hb : base ≤ W.heap.size) (g : Nat) (hg : g = W.heap.size) : (W.alloc (.cells #[.int .i64 x] 3)).ownsRow base 3 1 (.slice (some ⟨g, 0, none⟩) 1 1) 1 (ns [x]) := by
  subst hg
  have := World.ownsRow_lit (base := base) (size := 1) (e := 3) W #[.int .i64 x] 1 hb (by simp [maxLen]) rfl
  simpa [ns] using this
def vlen : Value → Nat
  | .slice _ n _ => n
  | _ => 0
theorem next_step (a m : Int) (k : Nat) : ((a + (k : Int)) % m + 1) % m = (a + ((k + 1 : Nat) : Int)) % m := by
  rw [Int.emod_add_emod]
  congr 1
  omega
set_option maxHeartbeats 800000 in
theorem rspan_bad (r c f t : Int) (w : World) (h : validB r c = false) :
    Calls Try.prog 162 #[.agg #[.int .i64 r, .int .i64 c], .int .i64 f, .int .i64 t] w fun e w' => e = .returned (.slice none 0 0) ∧ Up w w' := by
  go_enter Try.func162, Try.ntmps162
  go_wp2_with fail
  refine (ref_valid_is h _).mono ?_
  rintro e w1 ⟨rfl, hb_w1⟩
  have hu_w1 : Up w w1 := by (repeat (first | with_reducible exact Up.refl _ | with_reducible refine Up.alloc ?_ _ | with_reducible refine Up.drew ?_ | with_reducible refine Up.drewN ?_ _ | with_reducible refine Up.setCell ?_ (by (try simp) <;> omega) _ | with_reducible assumption | with_reducible refine Up.trans ?_ (by assumption)))
  have hz_w1 := Up.size hb_w1
  try simp at hz_w1
  obtain ⟨bd_w1_0, be_w1_0⟩ := hb_w1.at_ (w.heap.size) (by (try simp) <;> omega)
  have zb_w1_0 : w.heap.size < w1.heap.size := by omega
  go_wp2_with fail
  go_ret
  exact ⟨rfl, by (repeat (first | with_reducible exact Up.refl _ | with_reducible refine Up.alloc ?_ _ | with_reducible refine Up.drew ?_ | with_reducible refine Up.drewN ?_ _ | with_reducible refine Up.setCell ?_ (by (try simp) <;> omega) _ | with_reducible assumption | with_reducible refine Up.trans ?_ (by assumption)))⟩
set_option maxRecDepth 100000 in
set_option maxHeartbeats 3200000 in
theorem rspan_good {r c f t m : Int} {n : Nat} {w : World} (h : validB r c = true) (hm : r * c = m) (hn : (n : Int) = lenN r c f t) :
    Calls Try.prog 162 #[.agg #[.int .i64 r, .int .i64 c], .int .i64 f, .int .i64 t] w fun e w' => ∃ A c', e = .returned (.slice A n c') ∧ w'.ownsRow w.heap.size 3 1 (.slice A n c') n (ns (placesN (f % m) m n)) ∧ n ≤ c' ∧ c' ≤ maxLen ∧ Up w w' := by
  obtain ⟨i0, hi, hz0, hz1, hz2⟩ := info_parts info_i64
  obtain ⟨h0, h1, h2, h3, h4, h5⟩ := valid_facts h
  have HWr := Lib.hid (fun x W => by have := ref_wrap_good r c x W h; rw [hm] at this; exact this)
  have HCe := Lib.hid (fun W => by have := ref_cells_good r c W h; rw [hm] at this; exact this)
  unfold lenN at hn
  rw [hm] at h4 h5 hn
  have HMo := Lib.hid (fun x W => mod_is x m W h4 (by omega))
  have hlb := len_bd h4 hn
  have ha0 := Int.emod_nonneg f (show m ≠ 0 by omega)
  have ha1 := Int.emod_lt_of_pos f (show 0 < m by omega)
  have HST := Lib.hid (fun (k : Nat) (k0 : 0 < k) (kn : (k : Int) ≤ n) => step_end (f := f) (t := t) (m := m) (n := k) h4 hn k0 kn)
  have HV := Lib.hid h
  clear hn hm h
  have HBM := Lib.hid (fun (x : Int) => (show 0 ≤ x % m ∧ x % m < m from ⟨Int.emod_nonneg x (by omega), Int.emod_lt_of_pos x (by omega)⟩))
  obtain ⟨a, hae⟩ : ∃ a, f % m = a := ⟨_, rfl⟩
  obtain ⟨b, hbe⟩ : ∃ b, t % m = b := ⟨_, rfl⟩
  have HWa := Lib.hid (fun W => by have := HWr.out f W; rw [hae] at this; exact this)
  have HWb := Lib.hid (fun W => by have := HWr.out t W; rw [hbe] at this; exact this)
  rw [hae] at ha0 ha1 HST ⊢
  rw [hbe] at HST
  clear hae hbe HWr
  go_enter Try.func162, Try.ntmps162
  go_wp2_with fail
  refine (ref_valid_is HV.out _).mono ?_
  rintro e w1 ⟨rfl, hb_w1⟩
  have hu_w1 : Up w w1 := by (repeat (first | with_reducible exact Up.refl _ | with_reducible refine Up.alloc ?_ _ | with_reducible refine Up.drew ?_ | with_reducible refine Up.drewN ?_ _ | with_reducible refine Up.setCell ?_ (by (try simp) <;> omega) _ | with_reducible assumption | with_reducible refine Up.trans ?_ (by assumption)))
  have hz_w1 := Up.size hb_w1
  try simp at hz_w1
  obtain ⟨bd_w1_0, be_w1_0⟩ := hb_w1.at_ (w.heap.size) (by (try simp) <;> omega)
  have zb_w1_0 : w.heap.size < w1.heap.size := by omega
  go_wp2_with fail
  refine wp_region_up_lit (by kernel_rfl) (by kernel_rfl) ?_
  repeat (go_big_quiet_step (first | (go_at_call 118; with_reducible exact up_call (HWa.out _)) | (go_at_call 118; with_reducible exact up_call (HWb.out _))))
  refine wpQuiet_nil ?_
  rintro w2 ⟨W_w2, hw_w2⟩
  have hb_w2 : Up _ w2 := hw_w2 ▸ up_upOf _ _
  clear hw_w2 W_w2
  have hu_w2 : Up w1 w2 := by (repeat (first | with_reducible exact Up.refl _ | with_reducible refine Up.alloc ?_ _ | with_reducible refine Up.drew ?_ | with_reducible refine Up.drewN ?_ _ | with_reducible refine Up.setCell ?_ (by (try simp) <;> omega) _ | with_reducible assumption | with_reducible refine Up.trans ?_ (by assumption)))
  have hz_w2 := Up.size hb_w2
  try simp at hz_w2
  obtain ⟨bc_w2_0, bf_w2_0⟩ := hu_w2.at_ (w.heap.size) (by omega)
  have zb_w2_0 : w.heap.size < w2.heap.size := by omega
  go_wp2_with fail
  refine (HCe.out _).mono ?_
  rintro e w3 ⟨rfl, hb_w3⟩
  have hu_w3 : Up w2 w3 := by (repeat (first | with_reducible exact Up.refl _ | with_reducible refine Up.alloc ?_ _ | with_reducible refine Up.drew ?_ | with_reducible refine Up.drewN ?_ _ | with_reducible refine Up.setCell ?_ (by (try simp) <;> omega) _ | with_reducible assumption | with_reducible refine Up.trans ?_ (by assumption)))
  have hz_w3 := Up.size hb_w3
  try simp at hz_w3
  obtain ⟨bc_w3_0, bf_w3_0⟩ := hu_w3.at_ (w.heap.size) (by omega)
  have zb_w3_0 : w.heap.size < w3.heap.size := by omega
  go_wp2_with fail
  refine (HMo.out _ _).mono ?_
  rintro e w' ⟨rfl, rfl⟩
  have UW := Lib.hid (show Up (w.alloc (.cells #[.int .i64 r, .int .i64 c] 58)) w3 by (repeat (first | with_reducible exact Up.refl _ | with_reducible refine Up.alloc ?_ _ | with_reducible refine Up.drew ?_ | with_reducible refine Up.drewN ?_ _ | with_reducible refine Up.setCell ?_ (by (try simp) <;> omega) _ | with_reducible assumption | with_reducible refine Up.trans ?_ (by assumption))))
  have hz3 := UW.out.size
  simp at hz3
  have hl1 := own_up (lit_i64 w2 a (w.heap.size + 1) (by omega) w2.heap.size rfl) hb_w3
  have HB2 := Lib.hid (show w.heap.size + 1 ≤ w3.heap.size by omega)
  have hpl : placesN a m 1 = [a] := by
    have : a % m = a := Int.emod_eq_of_lt ha0 ha1
    simp [placesN, this]
  rw [← hpl] at hl1
  clear hpl
  go_wp2_with fail
  go_loopw [9, 10] (fun v q wr => ∃ (j : Nat) (A1 : Option Addr) (c1 : Nat), j + 1 ≤ n ∧ v = .slice A1 (j + 1) c1 ∧ q = .int .i64 ((a + ((j + 1 : Nat) : Int)) % m) ∧ wr.ownsRow (w.heap.size + 1) 3 1 (.slice A1 (j + 1) c1) (j + 1) (ns (placesN a m (j + 1))) ∧ Up (w.alloc (.cells #[.int .i64 r, .int .i64 c] 58)) wr) (fun v _ _ => n - vlen v)
  case atStart => exact ⟨0, _, _, by omega, rfl, rfl, hl1, UW.out⟩
  case round =>
    obtain ⟨j, A1, c1, hj, rfl, rfl, hown, hup⟩ := hrel
    have bx := (hup.at_ w.heap.size (by simp)).1
    have hsz := hup.size
    simp at hsz
    have zbr : w.heap.size < wr.heap.size := by omega
    have hst := HST.out (j + 1) (by omega) (by omega)
    have HN := Lib.hid (next_step a m (j + 1))
    have hxb := HBM.out (a + ((j + 1 : Nat) : Int))
    have HUP := Lib.hid hup
    clear hup
    by_cases hend : j + 1 = n
    · have hor := hst.2 (by omega)
      clear hst
      subst hend
      generalize (a + ((j + 1 : Nat) : Int)) % m = x at *
      rcases Bool.eq_false_or_eq_true (x != b) with e1 | e1
      · have e2 : (x != a) = false := by
          rcases hor with h | h
          · simp [h] at e1
          · simp [h]
        clear hor
        go_wp2
        go_ret
        obtain ⟨_, c', e1, hle, hmx⟩ := own_form hown
        injection e1 with _ _ e1
        subst e1
        exact ⟨A1, c1, rfl, own_base hown (by omega), hle, hmx, (Up.alloc (Up.refl w) _).trans HUP.out⟩
      · clear hor
        go_wp2
        go_ret
        obtain ⟨_, c', e1, hle, hmx⟩ := own_form hown
        injection e1 with _ _ e1
        subst e1
        exact ⟨A1, c1, rfl, own_base hown (by omega), hle, hmx, (Up.alloc (Up.refl w) _).trans HUP.out⟩
    · have hlt : j + 2 ≤ n := by omega
      have hno : ¬ ((a + ((j + 1 : Nat) : Int)) % m = b ∨ (a + ((j + 1 : Nat) : Int)) % m = a) := fun h => by have := hst.1 h; omega
      have HSU := Lib.hid (placesN_succ a m (j + 1))
      clear hst hend
      generalize (a + ((j + 1 : Nat) : Int)) % m = x at *
      have e1 : (x != b) = true := by simp; intro h; exact hno (.inl h)
      have e2 : (x != a) = true := by simp; intro h; exact hno (.inr h)
      have hq1 : j + 1 + 1 ≤ maxLen := by simp [maxLen]; omega
      have HSN := Lib.hid (show ns (placesN a m (j + 1 + 1)) = ns (placesN a m (j + 1)) ++ [.int .i64 x] by rw [HSU.out, ns_snoc])
      clear hno
      go_wp2_with (at_builtin; refine wpList_app _ rfl (.tmp 40) (.tmp 42) 50 rfl (w.heap.size + 1) 3 i0 _ 1 8 Try.underlying50 hi hz0 hz1 hz2 rfl (by decide) A1 (j + 1) c1 _ rfl (own_up hown ((Up.refl _).alloc _)) _ _ 1 1 _ rfl (reads_at _ _ 1 1 _ _ rfl (by simp)) (by simp [Value.oneCell']) hq1 (by omega) (by simp; omega) ?_; intro A2 c2 w5 hown5 hg5 hle5 hmx5 hbl5; have HO5 := Lib.hid hown5; have g0 := fun o => hbl5.cell (p := ⟨w.heap.size, o, none⟩) (Nat.lt_succ_self w.heap.size); have zb5 : w.heap.size < w5.heap.size := (by have := hbl5.size; (try simp at this) <;> omega); clear hown5 hg5)
      refine (HCe.out _).mono ?_
      rintro e w6 ⟨rfl, hu6⟩
      go_wp2_with fail
      refine (HMo.out _ _).mono ?_
      rintro e w' ⟨rfl, rfl⟩
      go_wp2
      go_roundw
      case rel =>
        refine ⟨j + 1, A2, c2, by omega, rfl, by rw [HN.out], ?_, ?_⟩
        · rw [HSN.out]; exact own_up HO5.out hu6
        · exact ((Up.past ((HUP.out).alloc _) (Below.mono hbl5 (by simp))).trans hu6)
      case measure => simp [vlen]; omega
end Go.Proofs.Ytjokcfenncogkaa
namespace Go.Proofs.Ytjokcfenncogkaa
open Go.RowKit
set_option linter.unusedVariables false
set_option linter.unusedSimpArgs false

set_option maxHeartbeats 3200000 in
theorem ropen_is {q h : Nat} {X : Spc} {w : World} (n : Int) (hr : RAt w q h X) (ok : X.Ok) :
    Calls Try.prog 53 #[.pointer (some ⟨q, 0, none⟩), .int .i64 n] w fun e w' => e = .returned (.bool (X.open_ n)) ∧ Up w w' := by
  have fR := fldR0
  have HR := Lib.hid hr
  obtain ⟨k, hk⟩ : ∃ k, X.wrap n = k := ⟨_, rfl⟩
  have hw := ok.wrap n
  rw [hk] at hw
  have HW := Lib.hid (rwrap_at n hr ok hk)
  have hst : X.start (k : Int) = X.start n := by rw [← hw.1, start_emod]
  have hat := Spc.at_nat ok hw.2
  obtain ⟨d, hd⟩ : ∃ d, X.at_ (k : Int) = d := ⟨_, rfl⟩
  have hdn : X.at_ n = d := by rw [← hd, ← hw.1, Spc.at_emod]
  have H1 := Lib.hid (fun W (h' : RAt W q h X) => rstart_is (k : Int) h' ok)
  rw [hst] at H1
  rw [hd] at hat
  have hO : X.open_ n = (!d.at_ && (decide (X.start n < 0) || !fP (X.at_ (X.start n)).fa)) := by unfold Spc.open_ Spc.isA; rw [hdn]
  have x1 := (hr.cells.2.2 k d hat).h1
  have hkm := hw.2
  obtain ⟨cap, q1, q2, k4⟩ := hr.h4
  have zp := hr.lt
  have zg := hr.cells.2.1
  have hsm := ok.small
  have hln := ok.len
  have hcp : (cap : Int) ≤ 9223372036854775807 := by simp [maxLen] at q2; omega
  have HRF := Lib.hid (fun W (h' : RAt W q h X) j (hj : j < X.L.length) f hf => rfield_is h' ok hj (f := f) hf)
  have hsr := start_range ok n
  obtain ⟨a, ha⟩ : ∃ a, X.start n = a := ⟨_, rfl⟩
  rw [ha] at H1 hO hsr
  obtain ⟨m, hm⟩ : ∃ m, X.L.length = m := ⟨_, rfl⟩
  rw [hm] at q1 k4 hsm hkm hln HRF
  have hkm' : (k : Int) < (m : Int) := by omega
  have HO := Lib.hid hO
  clear hr ok q2 hk hw hat hd hdn hst hO ha hm
  obtain ⟨dch, da, dfa, dhi, dco, dse⟩ := d
  simp only at x1 HO
  go_enter Try.func53, Try.ntmps53
  go_wp2_with fail
  refine HW.out.mono ?_
  rintro e w1 ⟨rfl, hu1⟩
  have HU1 := Lib.hid hu1
  have k5 := ((hu1.at_ q zp).1 4).trans k4
  have x2 := ((hu1.at_ h zg).1 _).trans x1
  have z1 := hu1.size
  have zp1 : q < w1.heap.size := by omega
  have zg1 : h < w1.heap.size := by omega
  clear hu1 k4 x1
  go_wp2_with fail
  refine (H1.out _ (HR.out.up HU1.out)).mono ?_
  rintro e w2 ⟨rfl, hu2⟩
  have HU2 := Lib.hid (HU1.out.trans hu2)
  have k6 := ((hu2.at_ q zp1).1 4).trans k5
  have x3 := ((hu2.at_ h zg1).1 _).trans x2
  have z2 := hu2.size
  have zp2 : q < w2.heap.size := by omega
  have zg2 : h < w2.heap.size := by omega
  clear hu2 k5 x2
  cases da
  · rcases hsr with rfl | ⟨ha0, ha1⟩
    · have HV := Lib.hid (show X.open_ n = true by rw [HO.out]; simp)
      go_wp2_with fail
      go_ret
      exact ⟨by rw [HV.out]; rfl, HU2.out⟩
    · obtain ⟨ka, rfl⟩ : ∃ ka : Nat, a = (ka : Int) := ⟨a.toNat, by omega⟩
      obtain ⟨f, hf⟩ : ∃ f, (X.at_ (ka : Int)).fa = f := ⟨_, rfl⟩
      have HRF2 := Lib.hid (HRF.out w2 (HR.out.up HU2.out) ka (by omega) f hf)
      have hna : ¬ (ka : Int) < 0 := by omega
      have HV := Lib.hid (show X.open_ n = !fP f by rw [HO.out, hf]; simp [hna])
      generalize fP f = b0 at *
      clear hf
      go_wp2_with fail
      refine HRF2.out.mono ?_
      rintro e w3 ⟨rfl, hu3⟩
      have HU3 := Lib.hid (HU2.out.trans hu3)
      clear hu3
      cases b0
      all_goals
        go_wp2_with fail
        go_ret
        exact ⟨by rw [HV.out]; rfl, HU3.out⟩
  · have HV := Lib.hid (show X.open_ n = false by rw [HO.out]; simp)
    go_wp2_with fail
    go_ret
    exact ⟨by rw [HV.out]; rfl, HU2.out⟩
end Go.Proofs.Ytjokcfenncogkaa
namespace Go.Proofs.Ytjokcfenncogkaa
open Go.RowKit
set_option linter.unusedVariables false
set_option linter.unusedSimpArgs false

def bfn (M wn s : Int) (F : List Int) (j : Nat) : Int × Int := (F.take j).foldl (stepN M wn s) (-1, 0)
theorem bfn_zero (M wn s : Int) (F : List Int) : bfn M wn s F 0 = (-1, 0) := rfl
theorem bfn_succ {M wn s : Int} {F : List Int} {j : Nat} {f : Int} (h : F[j]? = some f) : bfn M wn s F (j + 1) = stepN M wn s (bfn M wn s F j) f := by
  obtain ⟨hlt, he⟩ := List.getElem?_eq_some_iff.1 h
  unfold bfn
  rw [List.take_succ_eq_append_getElem hlt, List.foldl_append, he]
  rfl
theorem bfn_all {M wn s : Int} {F : List Int} {j : Nat} (h : F.length = j) : bfn M wn s F j = F.foldl (stepN M wn s) (-1, 0) := by
  unfold bfn
  rw [List.take_of_length_le (by omega)]
theorem firsts_len (X : Spc) : X.firsts.length ≤ X.L.length := by
  have h := firstsTo_len X X.attrs.length
  rw [firstsTo_all rfl] at h
  have := those_len (isAt X.L) X.L.length
  have e : X.attrs.length ≤ X.L.length := this
  omega
set_option maxRecDepth 100000 in
set_option maxHeartbeats 6400000 in
theorem rnext_f {q h : Nat} {X : Spc} {w : World} (n : Int) (hr : RAt w q h X) (ok : X.Ok) :
    Calls Try.prog 40 #[.pointer (some ⟨q, 0, none⟩), .int .i64 n, .bool false] w fun e w' => e = .returned (.int .i64 (X.find n (1))) ∧ Up w w' := by
  have HR := Lib.hid hr
  have RF := Lib.hid (rfirsts_is hr ok)
  obtain ⟨wn, hwn⟩ : ∃ wn, X.wrap n = wn := ⟨_, rfl⟩
  have hw := ok.wrap n
  rw [hwn] at hw
  have HW := Lib.hid (fun W (h' : RAt W q h X) => rwrap_at n h' ok hwn)
  have HNX := Lib.hid (next_find ok n (s := 1) (by simp))
  rw [hw.1] at HNX
  have HMEM := Lib.hid (fun (j : Nat) (f : Int) (hf : X.firsts[j]? = some f) => ((mem_firsts ok).1 (List.mem_of_getElem? hf)))
  have hln := ok.len
  obtain ⟨cap, q1, q2, k4⟩ := hr.h4
  have zp := hr.lt
  have hsm := ok.small
  have hbg := ok.big
  have hcp : (cap : Int) ≤ 9223372036854775807 := by simp [maxLen] at q2; omega
  have hfl := firsts_len X
  have hwl := hw.2
  obtain ⟨m, hm⟩ : ∃ m, X.L.length = m := ⟨_, rfl⟩
  rw [hm] at hln q1 k4 hsm hbg hfl hwl
  rw [← hln] at HNX HMEM
  obtain ⟨F, hF⟩ : ∃ F, X.firsts = F := ⟨_, rfl⟩
  rw [hF] at RF HNX HMEM hfl
  obtain ⟨nl, hnl⟩ : ∃ nl, F.length = nl := ⟨_, rfl⟩
  have HNL := Lib.hid hnl
  rw [hnl] at hfl
  have HBS := Lib.hid (fun (j : Nat) (f : Int) (hf : F[j]? = some f) => bfn_succ (M := (m : Int)) (wn := (wn : Int)) (s := 1) hf)
  have HBA := Lib.hid ((bfn_all (M := (m : Int)) (wn := (wn : Int)) (s := 1) hnl).symm)
  rw [HBA.out] at HNX
  generalize X.find n (1) = res at *
  have hm1 : 1 ≤ (m : Int) := by omega
  have hm2 : (m : Int) ≤ 4611686018427387904 := by omega
  obtain ⟨s, hs⟩ : ∃ s : Int, 1 = s := ⟨_, rfl⟩
  have HSD := Lib.hid (fun f => show distS (m : Int) (wn : Int) s f = if ((f - (wn : Int)) % (m : Int)) = 0 then (m : Int) else ((f - (wn : Int)) % (m : Int)) by rw [← hs]; unfold distS; rw [Int.one_mul])
  rw [hs] at HNX HBS
  clear hwn hw hr ok q2 hm hln hF hnl HBA hs
  go_enter Try.func40, Try.ntmps40
  go_wp2_with fail
  refine RF.out.mono ?_
  rintro e w1 ⟨A0, c0, rfl, hown0, hu1⟩
  have z1 := hu1.size
  have HU1 := Lib.hid hu1
  have HRD := Lib.hid hown0.reads
  have hc0 : (c0 : Int) ≤ 9223372036854775807 := by have := hown0.mx; simp [maxLen] at this; omega
  have hle0 := hown0.le
  have k5 := ((hu1.at_ q zp).1 4).trans k4
  have zp1 : q < w1.heap.size := by omega
  rw [HNL.out] at HRD hle0 ⊢
  clear hown0 hu1 k4
  go_wp2_with fail
  go_loopw [7, 8, 15] (fun v u i wr => ∃ j : Nat, j ≤ nl ∧ v = .int .i64 (bfn (m : Int) (wn : Int) s F j).1 ∧ u = .int .i64 (bfn (m : Int) (wn : Int) s F j).2 ∧ i = .int .i64 (j : Int) ∧ Up w1 wr) (fun _ _ i _ => nl - (intOf i).toNat)
  case atStart => exact ⟨0, by omega, rfl, rfl, rfl, Up.refl _⟩
  case round =>
    obtain ⟨j, hj, rfl, rfl, rfl, huj⟩ := hrel
    have HUJ := Lib.hid huj
    have zj := huj.size
    obtain ⟨bj, hbj⟩ : ∃ bj, bfn (m : Int) (wn : Int) s F j = bj := ⟨_, rfl⟩
    obtain ⟨b1, b2⟩ := bj
    have HBJ := Lib.hid hbj
    rw [hbj]
    clear hbj
    simp only
    by_cases hlt : j < nl
    · obtain ⟨f, hf⟩ : ∃ f, F[j]? = some f := ⟨_, List.getElem?_eq_getElem (by have := HNL.out; omega)⟩
      obtain ⟨f0, f1, -⟩ := HMEM.out j f hf
      have hrd := HRD.out.below huj
      obtain ⟨b, off, rfl, hb⟩ := hrd.form (by omega)
      obtain ⟨hbl, u, hu, hcl⟩ := hrd.at_ (j := j) (by omega)
      have hux : u = .int .i64 f := by
        unfold ns at hu
        rw [List.getElem?_map, hf] at hu
        injection hu with hu
        exact hu.symm
      subst hux
      have zb : b < wr.heap.size := by omega
      have HSJ := Lib.hid (HBS.out j f hf)
      rw [HBJ.out] at HSJ
      have HDV := Lib.hid (HSD.out f)
      have hjm : (j : Int) < (nl : Int) := by omega
      have k6 := ((huj.at_ q zp1).1 4).trans k5
      have zq : q < wr.heap.size := by omega
      have HRR := Lib.hid (HR.out.up (HU1.out.trans huj))
      clear hf hu hrd huj
      obtain ⟨dv, hdv⟩ : ∃ dv, ((f - (wn : Int)) % (m : Int)) = dv := ⟨_, rfl⟩
      rw [hdv] at HDV
      by_cases hz : dv = 0
      · subst hz
        have HDD := Lib.hid (show distS (m : Int) (wn : Int) s f = (m : Int) by rw [HDV.out]; rw [if_pos rfl])
        by_cases hb : b1 < 0
        · have HV := Lib.hid (show bfn (m : Int) (wn : Int) s F (j + 1) = (f, (m : Int)) by rw [HSJ.out]; unfold stepN; rw [if_pos (.inl hb), HDD.out])
          go_wp2_with fail
          refine wp_region_mix (NS := []) [] rfl (by kernel_rfl) (by kernel_rfl) (by simp) (by simp) ?_
          repeat (first
            | (refine mix_skip rfl rfl ?_; simp only [Act.put, List.setIfInBounds_toArray, List.set_cons_succ, List.set_cons_zero])
            | (refine mix_q rfl rfl rfl (by kernel_rfl) rfl rfl rfl ?_
               apply Exists.intro
               refine ⟨fun Wm => ?_, ?_⟩
               · simp only [fin]
                 skip
                 intro K hK
                 go_wp2_with ((first | (go_at_call 34; (with_reducible refine (HW.out _ (HRR.out.up (up_upOf _ _))).mono ?_); rintro e w' ⟨rfl, hux⟩) | (go_at_call 121; (with_reducible refine (mod_is _ _ _ hm1 hm2).mono ?_); rintro e w' ⟨rfl, rfl⟩)))
                 refine hK _ _ ?_ ?_ ?_
                 · (repeat (first | with_reducible exact Up.refl _ | with_reducible refine Up.alloc ?_ _ | with_reducible refine Up.drew ?_ | with_reducible refine Up.drewN ?_ _ | with_reducible refine Up.setCell ?_ (by (try simp) <;> omega) _ | with_reducible assumption | with_reducible refine Up.trans ?_ (by assumption)))
                 · rfl
                 · exact tmps_at rfl
               simp only [Act.put, List.setIfInBounds_toArray, List.set_cons_succ, List.set_cons_zero]))
          refine mix_nil ?_
          intro w2 hb_w2
          simp only [fin]
          have hu_w2 : Up wr w2 := by (repeat (first | with_reducible exact Up.refl _ | with_reducible refine Up.alloc ?_ _ | with_reducible refine Up.drew ?_ | with_reducible refine Up.drewN ?_ _ | with_reducible refine Up.setCell ?_ (by (try simp) <;> omega) _ | with_reducible assumption | with_reducible refine Up.trans ?_ (by assumption)))
          have hz_w2 := Up.size hb_w2
          try simp at hz_w2
          obtain ⟨bc_w2_0, bf_w2_0⟩ := hu_w2.at_ (q) (by omega)
          have zb_w2_0 : q < w2.heap.size := by omega
          go_wp2_with fail
          go_roundw
          case rel => exact ⟨j + 1, by omega, by rw [HV.out], by rw [HV.out], by go_num, HUJ.out.trans hb_w2⟩
          case measure => simp [intOf]; omega
        · by_cases hd : (m : Int) < b2
          · have HV := Lib.hid (show bfn (m : Int) (wn : Int) s F (j + 1) = (f, (m : Int)) by rw [HSJ.out]; unfold stepN; rw [if_pos (.inr (by rw [HDD.out]; exact hd)), HDD.out])
            go_wp2_with fail
            refine wp_region_mix (NS := []) [] rfl (by kernel_rfl) (by kernel_rfl) (by simp) (by simp) ?_
            repeat (first
              | (refine mix_skip rfl rfl ?_; simp only [Act.put, List.setIfInBounds_toArray, List.set_cons_succ, List.set_cons_zero])
              | (refine mix_q rfl rfl rfl (by kernel_rfl) rfl rfl rfl ?_
                 apply Exists.intro
                 refine ⟨fun Wm => ?_, ?_⟩
                 · simp only [fin]
                   skip
                   intro K hK
                   go_wp2_with ((first | (go_at_call 34; (with_reducible refine (HW.out _ (HRR.out.up (up_upOf _ _))).mono ?_); rintro e w' ⟨rfl, hux⟩) | (go_at_call 121; (with_reducible refine (mod_is _ _ _ hm1 hm2).mono ?_); rintro e w' ⟨rfl, rfl⟩)))
                   refine hK _ _ ?_ ?_ ?_
                   · (repeat (first | with_reducible exact Up.refl _ | with_reducible refine Up.alloc ?_ _ | with_reducible refine Up.drew ?_ | with_reducible refine Up.drewN ?_ _ | with_reducible refine Up.setCell ?_ (by (try simp) <;> omega) _ | with_reducible assumption | with_reducible refine Up.trans ?_ (by assumption)))
                   · rfl
                   · exact tmps_at rfl
                 simp only [Act.put, List.setIfInBounds_toArray, List.set_cons_succ, List.set_cons_zero]))
            refine mix_nil ?_
            intro w2 hb_w2
            simp only [fin]
            have hu_w2 : Up wr w2 := by (repeat (first | with_reducible exact Up.refl _ | with_reducible refine Up.alloc ?_ _ | with_reducible refine Up.drew ?_ | with_reducible refine Up.drewN ?_ _ | with_reducible refine Up.setCell ?_ (by (try simp) <;> omega) _ | with_reducible assumption | with_reducible refine Up.trans ?_ (by assumption)))
            have hz_w2 := Up.size hb_w2
            try simp at hz_w2
            obtain ⟨bc_w2_0, bf_w2_0⟩ := hu_w2.at_ (q) (by omega)
            have zb_w2_0 : q < w2.heap.size := by omega
            go_wp2_with fail
            go_roundw
            case rel => exact ⟨j + 1, by omega, by rw [HV.out], by rw [HV.out], by go_num, HUJ.out.trans hb_w2⟩
            case measure => simp [intOf]; omega
          · have HV := Lib.hid (show bfn (m : Int) (wn : Int) s F (j + 1) = (b1, b2) by rw [HSJ.out]; unfold stepN; rw [if_neg (by rw [HDD.out]; intro e; rcases e with e | e; exact hb e; exact hd e)])
            go_wp2_with fail
            refine wp_region_mix (NS := []) [] rfl (by kernel_rfl) (by kernel_rfl) (by simp) (by simp) ?_
            repeat (first
              | (refine mix_skip rfl rfl ?_; simp only [Act.put, List.setIfInBounds_toArray, List.set_cons_succ, List.set_cons_zero])
              | (refine mix_q rfl rfl rfl (by kernel_rfl) rfl rfl rfl ?_
                 apply Exists.intro
                 refine ⟨fun Wm => ?_, ?_⟩
                 · simp only [fin]
                   skip
                   intro K hK
                   go_wp2_with ((first | (go_at_call 34; (with_reducible refine (HW.out _ (HRR.out.up (up_upOf _ _))).mono ?_); rintro e w' ⟨rfl, hux⟩) | (go_at_call 121; (with_reducible refine (mod_is _ _ _ hm1 hm2).mono ?_); rintro e w' ⟨rfl, rfl⟩)))
                   refine hK _ _ ?_ ?_ ?_
                   · (repeat (first | with_reducible exact Up.refl _ | with_reducible refine Up.alloc ?_ _ | with_reducible refine Up.drew ?_ | with_reducible refine Up.drewN ?_ _ | with_reducible refine Up.setCell ?_ (by (try simp) <;> omega) _ | with_reducible assumption | with_reducible refine Up.trans ?_ (by assumption)))
                   · rfl
                   · exact tmps_at rfl
                 simp only [Act.put, List.setIfInBounds_toArray, List.set_cons_succ, List.set_cons_zero]))
            refine mix_nil ?_
            intro w2 hb_w2
            simp only [fin]
            have hu_w2 : Up wr w2 := by (repeat (first | with_reducible exact Up.refl _ | with_reducible refine Up.alloc ?_ _ | with_reducible refine Up.drew ?_ | with_reducible refine Up.drewN ?_ _ | with_reducible refine Up.setCell ?_ (by (try simp) <;> omega) _ | with_reducible assumption | with_reducible refine Up.trans ?_ (by assumption)))
            have hz_w2 := Up.size hb_w2
            try simp at hz_w2
            obtain ⟨bc_w2_0, bf_w2_0⟩ := hu_w2.at_ (q) (by omega)
            have zb_w2_0 : q < w2.heap.size := by omega
            go_wp2_with fail
            go_roundw
            case rel => exact ⟨j + 1, by omega, by rw [HV.out], by rw [HV.out], by go_num, HUJ.out.trans hb_w2⟩
            case measure => simp [intOf]; omega
      · have hze : (dv == 0) = false := by simpa using hz
        have HDD := Lib.hid (show distS (m : Int) (wn : Int) s f = dv by rw [HDV.out]; rw [if_neg hz])
        by_cases hb : b1 < 0
        · have HV := Lib.hid (show bfn (m : Int) (wn : Int) s F (j + 1) = (f, dv) by rw [HSJ.out]; unfold stepN; rw [if_pos (.inl hb), HDD.out])
          go_wp2_with fail
          refine wp_region_mix (NS := []) [] rfl (by kernel_rfl) (by kernel_rfl) (by simp) (by simp) ?_
          repeat (first
            | (refine mix_skip rfl rfl ?_; simp only [Act.put, List.setIfInBounds_toArray, List.set_cons_succ, List.set_cons_zero])
            | (refine mix_q rfl rfl rfl (by kernel_rfl) rfl rfl rfl ?_
               apply Exists.intro
               refine ⟨fun Wm => ?_, ?_⟩
               · simp only [fin]
                 skip
                 intro K hK
                 go_wp2_with ((first | (go_at_call 34; (with_reducible refine (HW.out _ (HRR.out.up (up_upOf _ _))).mono ?_); rintro e w' ⟨rfl, hux⟩) | (go_at_call 121; (with_reducible refine (mod_is _ _ _ hm1 hm2).mono ?_); rintro e w' ⟨rfl, rfl⟩)))
                 refine hK _ _ ?_ ?_ ?_
                 · (repeat (first | with_reducible exact Up.refl _ | with_reducible refine Up.alloc ?_ _ | with_reducible refine Up.drew ?_ | with_reducible refine Up.drewN ?_ _ | with_reducible refine Up.setCell ?_ (by (try simp) <;> omega) _ | with_reducible assumption | with_reducible refine Up.trans ?_ (by assumption)))
                 · rfl
                 · exact tmps_at rfl
               simp only [Act.put, List.setIfInBounds_toArray, List.set_cons_succ, List.set_cons_zero]))
          refine mix_nil ?_
          intro w2 hb_w2
          simp only [fin]
          have hu_w2 : Up wr w2 := by (repeat (first | with_reducible exact Up.refl _ | with_reducible refine Up.alloc ?_ _ | with_reducible refine Up.drew ?_ | with_reducible refine Up.drewN ?_ _ | with_reducible refine Up.setCell ?_ (by (try simp) <;> omega) _ | with_reducible assumption | with_reducible refine Up.trans ?_ (by assumption)))
          have hz_w2 := Up.size hb_w2
          try simp at hz_w2
          obtain ⟨bc_w2_0, bf_w2_0⟩ := hu_w2.at_ (q) (by omega)
          have zb_w2_0 : q < w2.heap.size := by omega
          go_wp2_with fail
          go_roundw
          case rel => exact ⟨j + 1, by omega, by rw [HV.out], by rw [HV.out], by go_num, HUJ.out.trans hb_w2⟩
          case measure => simp [intOf]; omega
        · by_cases hd : dv < b2
          · have HV := Lib.hid (show bfn (m : Int) (wn : Int) s F (j + 1) = (f, dv) by rw [HSJ.out]; unfold stepN; rw [if_pos (.inr (by rw [HDD.out]; exact hd)), HDD.out])
            go_wp2_with fail
            refine wp_region_mix (NS := []) [] rfl (by kernel_rfl) (by kernel_rfl) (by simp) (by simp) ?_
            repeat (first
              | (refine mix_skip rfl rfl ?_; simp only [Act.put, List.setIfInBounds_toArray, List.set_cons_succ, List.set_cons_zero])
              | (refine mix_q rfl rfl rfl (by kernel_rfl) rfl rfl rfl ?_
                 apply Exists.intro
                 refine ⟨fun Wm => ?_, ?_⟩
                 · simp only [fin]
                   skip
                   intro K hK
                   go_wp2_with ((first | (go_at_call 34; (with_reducible refine (HW.out _ (HRR.out.up (up_upOf _ _))).mono ?_); rintro e w' ⟨rfl, hux⟩) | (go_at_call 121; (with_reducible refine (mod_is _ _ _ hm1 hm2).mono ?_); rintro e w' ⟨rfl, rfl⟩)))
                   refine hK _ _ ?_ ?_ ?_
                   · (repeat (first | with_reducible exact Up.refl _ | with_reducible refine Up.alloc ?_ _ | with_reducible refine Up.drew ?_ | with_reducible refine Up.drewN ?_ _ | with_reducible refine Up.setCell ?_ (by (try simp) <;> omega) _ | with_reducible assumption | with_reducible refine Up.trans ?_ (by assumption)))
                   · rfl
                   · exact tmps_at rfl
                 simp only [Act.put, List.setIfInBounds_toArray, List.set_cons_succ, List.set_cons_zero]))
            refine mix_nil ?_
            intro w2 hb_w2
            simp only [fin]
            have hu_w2 : Up wr w2 := by (repeat (first | with_reducible exact Up.refl _ | with_reducible refine Up.alloc ?_ _ | with_reducible refine Up.drew ?_ | with_reducible refine Up.drewN ?_ _ | with_reducible refine Up.setCell ?_ (by (try simp) <;> omega) _ | with_reducible assumption | with_reducible refine Up.trans ?_ (by assumption)))
            have hz_w2 := Up.size hb_w2
            try simp at hz_w2
            obtain ⟨bc_w2_0, bf_w2_0⟩ := hu_w2.at_ (q) (by omega)
            have zb_w2_0 : q < w2.heap.size := by omega
            go_wp2_with fail
            go_roundw
            case rel => exact ⟨j + 1, by omega, by rw [HV.out], by rw [HV.out], by go_num, HUJ.out.trans hb_w2⟩
            case measure => simp [intOf]; omega
          · have HV := Lib.hid (show bfn (m : Int) (wn : Int) s F (j + 1) = (b1, b2) by rw [HSJ.out]; unfold stepN; rw [if_neg (by rw [HDD.out]; intro e; rcases e with e | e; exact hb e; exact hd e)])
            go_wp2_with fail
            refine wp_region_mix (NS := []) [] rfl (by kernel_rfl) (by kernel_rfl) (by simp) (by simp) ?_
            repeat (first
              | (refine mix_skip rfl rfl ?_; simp only [Act.put, List.setIfInBounds_toArray, List.set_cons_succ, List.set_cons_zero])
              | (refine mix_q rfl rfl rfl (by kernel_rfl) rfl rfl rfl ?_
                 apply Exists.intro
                 refine ⟨fun Wm => ?_, ?_⟩
                 · simp only [fin]
                   skip
                   intro K hK
                   go_wp2_with ((first | (go_at_call 34; (with_reducible refine (HW.out _ (HRR.out.up (up_upOf _ _))).mono ?_); rintro e w' ⟨rfl, hux⟩) | (go_at_call 121; (with_reducible refine (mod_is _ _ _ hm1 hm2).mono ?_); rintro e w' ⟨rfl, rfl⟩)))
                   refine hK _ _ ?_ ?_ ?_
                   · (repeat (first | with_reducible exact Up.refl _ | with_reducible refine Up.alloc ?_ _ | with_reducible refine Up.drew ?_ | with_reducible refine Up.drewN ?_ _ | with_reducible refine Up.setCell ?_ (by (try simp) <;> omega) _ | with_reducible assumption | with_reducible refine Up.trans ?_ (by assumption)))
                   · rfl
                   · exact tmps_at rfl
                 simp only [Act.put, List.setIfInBounds_toArray, List.set_cons_succ, List.set_cons_zero]))
            refine mix_nil ?_
            intro w2 hb_w2
            simp only [fin]
            have hu_w2 : Up wr w2 := by (repeat (first | with_reducible exact Up.refl _ | with_reducible refine Up.alloc ?_ _ | with_reducible refine Up.drew ?_ | with_reducible refine Up.drewN ?_ _ | with_reducible refine Up.setCell ?_ (by (try simp) <;> omega) _ | with_reducible assumption | with_reducible refine Up.trans ?_ (by assumption)))
            have hz_w2 := Up.size hb_w2
            try simp at hz_w2
            obtain ⟨bc_w2_0, bf_w2_0⟩ := hu_w2.at_ (q) (by omega)
            have zb_w2_0 : q < w2.heap.size := by omega
            go_wp2_with fail
            go_roundw
            case rel => exact ⟨j + 1, by omega, by rw [HV.out], by rw [HV.out], by go_num, HUJ.out.trans hb_w2⟩
            case measure => simp [intOf]; omega
    · obtain rfl : j = nl := by omega
      have HA := Lib.hid HNX.out
      rw [HBJ.out] at HA
      go_wp2_with fail
      go_ret
      exact ⟨by rw [← HA.out]; rfl, HU1.out.trans HUJ.out⟩
set_option maxRecDepth 100000 in
set_option maxHeartbeats 6400000 in
theorem rnext_b {q h : Nat} {X : Spc} {w : World} (n : Int) (hr : RAt w q h X) (ok : X.Ok) :
    Calls Try.prog 40 #[.pointer (some ⟨q, 0, none⟩), .int .i64 n, .bool true] w fun e w' => e = .returned (.int .i64 (X.find n (-1))) ∧ Up w w' := by
  have HR := Lib.hid hr
  have RF := Lib.hid (rfirsts_is hr ok)
  obtain ⟨wn, hwn⟩ : ∃ wn, X.wrap n = wn := ⟨_, rfl⟩
  have hw := ok.wrap n
  rw [hwn] at hw
  have HW := Lib.hid (fun W (h' : RAt W q h X) => rwrap_at n h' ok hwn)
  have HNX := Lib.hid (next_find ok n (s := -1) (by simp))
  rw [hw.1] at HNX
  have HMEM := Lib.hid (fun (j : Nat) (f : Int) (hf : X.firsts[j]? = some f) => ((mem_firsts ok).1 (List.mem_of_getElem? hf)))
  have hln := ok.len
  obtain ⟨cap, q1, q2, k4⟩ := hr.h4
  have zp := hr.lt
  have hsm := ok.small
  have hbg := ok.big
  have hcp : (cap : Int) ≤ 9223372036854775807 := by simp [maxLen] at q2; omega
  have hfl := firsts_len X
  have hwl := hw.2
  obtain ⟨m, hm⟩ : ∃ m, X.L.length = m := ⟨_, rfl⟩
  rw [hm] at hln q1 k4 hsm hbg hfl hwl
  rw [← hln] at HNX HMEM
  obtain ⟨F, hF⟩ : ∃ F, X.firsts = F := ⟨_, rfl⟩
  rw [hF] at RF HNX HMEM hfl
  obtain ⟨nl, hnl⟩ : ∃ nl, F.length = nl := ⟨_, rfl⟩
  have HNL := Lib.hid hnl
  rw [hnl] at hfl
  have HBS := Lib.hid (fun (j : Nat) (f : Int) (hf : F[j]? = some f) => bfn_succ (M := (m : Int)) (wn := (wn : Int)) (s := -1) hf)
  have HBA := Lib.hid ((bfn_all (M := (m : Int)) (wn := (wn : Int)) (s := -1) hnl).symm)
  rw [HBA.out] at HNX
  generalize X.find n (-1) = res at *
  have hm1 : 1 ≤ (m : Int) := by omega
  have hm2 : (m : Int) ≤ 4611686018427387904 := by omega
  obtain ⟨s, hs⟩ : ∃ s : Int, -1 = s := ⟨_, rfl⟩
  have HSD := Lib.hid (fun f => show distS (m : Int) (wn : Int) s f = if (((wn : Int) - f) % (m : Int)) = 0 then (m : Int) else (((wn : Int) - f) % (m : Int)) by rw [← hs]; unfold distS; rw [show -1 * (f - (wn : Int)) = (wn : Int) - f by omega])
  rw [hs] at HNX HBS
  clear hwn hw hr ok q2 hm hln hF hnl HBA hs
  go_enter Try.func40, Try.ntmps40
  go_wp2_with fail
  refine RF.out.mono ?_
  rintro e w1 ⟨A0, c0, rfl, hown0, hu1⟩
  have z1 := hu1.size
  have HU1 := Lib.hid hu1
  have HRD := Lib.hid hown0.reads
  have hc0 : (c0 : Int) ≤ 9223372036854775807 := by have := hown0.mx; simp [maxLen] at this; omega
  have hle0 := hown0.le
  have k5 := ((hu1.at_ q zp).1 4).trans k4
  have zp1 : q < w1.heap.size := by omega
  rw [HNL.out] at HRD hle0 ⊢
  clear hown0 hu1 k4
  go_wp2_with fail
  go_loopw [7, 8, 15] (fun v u i wr => ∃ j : Nat, j ≤ nl ∧ v = .int .i64 (bfn (m : Int) (wn : Int) s F j).1 ∧ u = .int .i64 (bfn (m : Int) (wn : Int) s F j).2 ∧ i = .int .i64 (j : Int) ∧ Up w1 wr) (fun _ _ i _ => nl - (intOf i).toNat)
  case atStart => exact ⟨0, by omega, rfl, rfl, rfl, Up.refl _⟩
  case round =>
    obtain ⟨j, hj, rfl, rfl, rfl, huj⟩ := hrel
    have HUJ := Lib.hid huj
    have zj := huj.size
    obtain ⟨bj, hbj⟩ : ∃ bj, bfn (m : Int) (wn : Int) s F j = bj := ⟨_, rfl⟩
    obtain ⟨b1, b2⟩ := bj
    have HBJ := Lib.hid hbj
    rw [hbj]
    clear hbj
    simp only
    by_cases hlt : j < nl
    · obtain ⟨f, hf⟩ : ∃ f, F[j]? = some f := ⟨_, List.getElem?_eq_getElem (by have := HNL.out; omega)⟩
      obtain ⟨f0, f1, -⟩ := HMEM.out j f hf
      have hrd := HRD.out.below huj
      obtain ⟨b, off, rfl, hb⟩ := hrd.form (by omega)
      obtain ⟨hbl, u, hu, hcl⟩ := hrd.at_ (j := j) (by omega)
      have hux : u = .int .i64 f := by
        unfold ns at hu
        rw [List.getElem?_map, hf] at hu
        injection hu with hu
        exact hu.symm
      subst hux
      have zb : b < wr.heap.size := by omega
      have HSJ := Lib.hid (HBS.out j f hf)
      rw [HBJ.out] at HSJ
      have HDV := Lib.hid (HSD.out f)
      have hjm : (j : Int) < (nl : Int) := by omega
      have k6 := ((huj.at_ q zp1).1 4).trans k5
      have zq : q < wr.heap.size := by omega
      have HRR := Lib.hid (HR.out.up (HU1.out.trans huj))
      clear hf hu hrd huj
      obtain ⟨dv, hdv⟩ : ∃ dv, (((wn : Int) - f) % (m : Int)) = dv := ⟨_, rfl⟩
      rw [hdv] at HDV
      by_cases hz : dv = 0
      · subst hz
        have HDD := Lib.hid (show distS (m : Int) (wn : Int) s f = (m : Int) by rw [HDV.out]; rw [if_pos rfl])
        by_cases hb : b1 < 0
        · have HV := Lib.hid (show bfn (m : Int) (wn : Int) s F (j + 1) = (f, (m : Int)) by rw [HSJ.out]; unfold stepN; rw [if_pos (.inl hb), HDD.out])
          go_wp2_with fail
          refine wp_region_mix (NS := []) [] rfl (by kernel_rfl) (by kernel_rfl) (by simp) (by simp) ?_
          repeat (first
            | (refine mix_skip rfl rfl ?_; simp only [Act.put, List.setIfInBounds_toArray, List.set_cons_succ, List.set_cons_zero])
            | (refine mix_q rfl rfl rfl (by kernel_rfl) rfl rfl rfl ?_
               apply Exists.intro
               refine ⟨fun Wm => ?_, ?_⟩
               · simp only [fin]
                 skip
                 intro K hK
                 go_wp2_with ((first | (go_at_call 34; (with_reducible refine (HW.out _ (HRR.out.up (up_upOf _ _))).mono ?_); rintro e w' ⟨rfl, hux⟩) | (go_at_call 121; (with_reducible refine (mod_is _ _ _ hm1 hm2).mono ?_); rintro e w' ⟨rfl, rfl⟩)))
                 refine hK _ _ ?_ ?_ ?_
                 · (repeat (first | with_reducible exact Up.refl _ | with_reducible refine Up.alloc ?_ _ | with_reducible refine Up.drew ?_ | with_reducible refine Up.drewN ?_ _ | with_reducible refine Up.setCell ?_ (by (try simp) <;> omega) _ | with_reducible assumption | with_reducible refine Up.trans ?_ (by assumption)))
                 · rfl
                 · exact tmps_at rfl
               simp only [Act.put, List.setIfInBounds_toArray, List.set_cons_succ, List.set_cons_zero]))
          refine mix_nil ?_
          intro w2 hb_w2
          simp only [fin]
          have hu_w2 : Up wr w2 := by (repeat (first | with_reducible exact Up.refl _ | with_reducible refine Up.alloc ?_ _ | with_reducible refine Up.drew ?_ | with_reducible refine Up.drewN ?_ _ | with_reducible refine Up.setCell ?_ (by (try simp) <;> omega) _ | with_reducible assumption | with_reducible refine Up.trans ?_ (by assumption)))
          have hz_w2 := Up.size hb_w2
          try simp at hz_w2
          obtain ⟨bc_w2_0, bf_w2_0⟩ := hu_w2.at_ (q) (by omega)
          have zb_w2_0 : q < w2.heap.size := by omega
          go_wp2_with fail
          refine wp_region_mix (NS := []) [] rfl (by kernel_rfl) (by kernel_rfl) (by simp) (by simp) ?_
          repeat (first
            | (refine mix_skip rfl rfl ?_; simp only [Act.put, List.setIfInBounds_toArray, List.set_cons_succ, List.set_cons_zero])
            | (refine mix_q rfl rfl rfl (by kernel_rfl) rfl rfl rfl ?_
               apply Exists.intro
               refine ⟨fun Wm => ?_, ?_⟩
               · simp only [fin]
                 skip
                 intro K hK
                 go_wp2_with ((first | (go_at_call 34; (with_reducible refine (HW.out _ (HRR.out.up (hu_w2.trans (up_upOf _ _)))).mono ?_); rintro e w' ⟨rfl, hux⟩) | (go_at_call 121; (with_reducible refine (mod_is _ _ _ hm1 hm2).mono ?_); rintro e w' ⟨rfl, rfl⟩)))
                 refine hK _ _ ?_ ?_ ?_
                 · (repeat (first | with_reducible exact Up.refl _ | with_reducible refine Up.alloc ?_ _ | with_reducible refine Up.drew ?_ | with_reducible refine Up.drewN ?_ _ | with_reducible refine Up.setCell ?_ (by (try simp) <;> omega) _ | with_reducible assumption | with_reducible refine Up.trans ?_ (by assumption)))
                 · rfl
                 · exact tmps_at rfl
               simp only [Act.put, List.setIfInBounds_toArray, List.set_cons_succ, List.set_cons_zero]))
          refine mix_nil ?_
          intro w3 hb_w3
          simp only [fin]
          have hu_w3 : Up w2 w3 := by (repeat (first | with_reducible exact Up.refl _ | with_reducible refine Up.alloc ?_ _ | with_reducible refine Up.drew ?_ | with_reducible refine Up.drewN ?_ _ | with_reducible refine Up.setCell ?_ (by (try simp) <;> omega) _ | with_reducible assumption | with_reducible refine Up.trans ?_ (by assumption)))
          have hz_w3 := Up.size hb_w3
          try simp at hz_w3
          obtain ⟨bc_w3_0, bf_w3_0⟩ := hu_w3.at_ (q) (by omega)
          have zb_w3_0 : q < w3.heap.size := by omega
          go_wp2_with fail
          go_roundw
          case rel => exact ⟨j + 1, by omega, by rw [HV.out], by rw [HV.out], by go_num, HUJ.out.trans (hb_w2.trans hb_w3)⟩
          case measure => simp [intOf]; omega
        · by_cases hd : (m : Int) < b2
          · have HV := Lib.hid (show bfn (m : Int) (wn : Int) s F (j + 1) = (f, (m : Int)) by rw [HSJ.out]; unfold stepN; rw [if_pos (.inr (by rw [HDD.out]; exact hd)), HDD.out])
            go_wp2_with fail
            refine wp_region_mix (NS := []) [] rfl (by kernel_rfl) (by kernel_rfl) (by simp) (by simp) ?_
            repeat (first
              | (refine mix_skip rfl rfl ?_; simp only [Act.put, List.setIfInBounds_toArray, List.set_cons_succ, List.set_cons_zero])
              | (refine mix_q rfl rfl rfl (by kernel_rfl) rfl rfl rfl ?_
                 apply Exists.intro
                 refine ⟨fun Wm => ?_, ?_⟩
                 · simp only [fin]
                   skip
                   intro K hK
                   go_wp2_with ((first | (go_at_call 34; (with_reducible refine (HW.out _ (HRR.out.up (up_upOf _ _))).mono ?_); rintro e w' ⟨rfl, hux⟩) | (go_at_call 121; (with_reducible refine (mod_is _ _ _ hm1 hm2).mono ?_); rintro e w' ⟨rfl, rfl⟩)))
                   refine hK _ _ ?_ ?_ ?_
                   · (repeat (first | with_reducible exact Up.refl _ | with_reducible refine Up.alloc ?_ _ | with_reducible refine Up.drew ?_ | with_reducible refine Up.drewN ?_ _ | with_reducible refine Up.setCell ?_ (by (try simp) <;> omega) _ | with_reducible assumption | with_reducible refine Up.trans ?_ (by assumption)))
                   · rfl
                   · exact tmps_at rfl
                 simp only [Act.put, List.setIfInBounds_toArray, List.set_cons_succ, List.set_cons_zero]))
            refine mix_nil ?_
            intro w2 hb_w2
            simp only [fin]
            have hu_w2 : Up wr w2 := by (repeat (first | with_reducible exact Up.refl _ | with_reducible refine Up.alloc ?_ _ | with_reducible refine Up.drew ?_ | with_reducible refine Up.drewN ?_ _ | with_reducible refine Up.setCell ?_ (by (try simp) <;> omega) _ | with_reducible assumption | with_reducible refine Up.trans ?_ (by assumption)))
            have hz_w2 := Up.size hb_w2
            try simp at hz_w2
            obtain ⟨bc_w2_0, bf_w2_0⟩ := hu_w2.at_ (q) (by omega)
            have zb_w2_0 : q < w2.heap.size := by omega
            go_wp2_with fail
            refine wp_region_mix (NS := []) [] rfl (by kernel_rfl) (by kernel_rfl) (by simp) (by simp) ?_
            repeat (first
              | (refine mix_skip rfl rfl ?_; simp only [Act.put, List.setIfInBounds_toArray, List.set_cons_succ, List.set_cons_zero])
              | (refine mix_q rfl rfl rfl (by kernel_rfl) rfl rfl rfl ?_
                 apply Exists.intro
                 refine ⟨fun Wm => ?_, ?_⟩
                 · simp only [fin]
                   skip
                   intro K hK
                   go_wp2_with ((first | (go_at_call 34; (with_reducible refine (HW.out _ (HRR.out.up (hu_w2.trans (up_upOf _ _)))).mono ?_); rintro e w' ⟨rfl, hux⟩) | (go_at_call 121; (with_reducible refine (mod_is _ _ _ hm1 hm2).mono ?_); rintro e w' ⟨rfl, rfl⟩)))
                   refine hK _ _ ?_ ?_ ?_
                   · (repeat (first | with_reducible exact Up.refl _ | with_reducible refine Up.alloc ?_ _ | with_reducible refine Up.drew ?_ | with_reducible refine Up.drewN ?_ _ | with_reducible refine Up.setCell ?_ (by (try simp) <;> omega) _ | with_reducible assumption | with_reducible refine Up.trans ?_ (by assumption)))
                   · rfl
                   · exact tmps_at rfl
                 simp only [Act.put, List.setIfInBounds_toArray, List.set_cons_succ, List.set_cons_zero]))
            refine mix_nil ?_
            intro w3 hb_w3
            simp only [fin]
            have hu_w3 : Up w2 w3 := by (repeat (first | with_reducible exact Up.refl _ | with_reducible refine Up.alloc ?_ _ | with_reducible refine Up.drew ?_ | with_reducible refine Up.drewN ?_ _ | with_reducible refine Up.setCell ?_ (by (try simp) <;> omega) _ | with_reducible assumption | with_reducible refine Up.trans ?_ (by assumption)))
            have hz_w3 := Up.size hb_w3
            try simp at hz_w3
            obtain ⟨bc_w3_0, bf_w3_0⟩ := hu_w3.at_ (q) (by omega)
            have zb_w3_0 : q < w3.heap.size := by omega
            go_wp2_with fail
            go_roundw
            case rel => exact ⟨j + 1, by omega, by rw [HV.out], by rw [HV.out], by go_num, HUJ.out.trans (hb_w2.trans hb_w3)⟩
            case measure => simp [intOf]; omega
          · have HV := Lib.hid (show bfn (m : Int) (wn : Int) s F (j + 1) = (b1, b2) by rw [HSJ.out]; unfold stepN; rw [if_neg (by rw [HDD.out]; intro e; rcases e with e | e; exact hb e; exact hd e)])
            go_wp2_with fail
            refine wp_region_mix (NS := []) [] rfl (by kernel_rfl) (by kernel_rfl) (by simp) (by simp) ?_
            repeat (first
              | (refine mix_skip rfl rfl ?_; simp only [Act.put, List.setIfInBounds_toArray, List.set_cons_succ, List.set_cons_zero])
              | (refine mix_q rfl rfl rfl (by kernel_rfl) rfl rfl rfl ?_
                 apply Exists.intro
                 refine ⟨fun Wm => ?_, ?_⟩
                 · simp only [fin]
                   skip
                   intro K hK
                   go_wp2_with ((first | (go_at_call 34; (with_reducible refine (HW.out _ (HRR.out.up (up_upOf _ _))).mono ?_); rintro e w' ⟨rfl, hux⟩) | (go_at_call 121; (with_reducible refine (mod_is _ _ _ hm1 hm2).mono ?_); rintro e w' ⟨rfl, rfl⟩)))
                   refine hK _ _ ?_ ?_ ?_
                   · (repeat (first | with_reducible exact Up.refl _ | with_reducible refine Up.alloc ?_ _ | with_reducible refine Up.drew ?_ | with_reducible refine Up.drewN ?_ _ | with_reducible refine Up.setCell ?_ (by (try simp) <;> omega) _ | with_reducible assumption | with_reducible refine Up.trans ?_ (by assumption)))
                   · rfl
                   · exact tmps_at rfl
                 simp only [Act.put, List.setIfInBounds_toArray, List.set_cons_succ, List.set_cons_zero]))
            refine mix_nil ?_
            intro w2 hb_w2
            simp only [fin]
            have hu_w2 : Up wr w2 := by (repeat (first | with_reducible exact Up.refl _ | with_reducible refine Up.alloc ?_ _ | with_reducible refine Up.drew ?_ | with_reducible refine Up.drewN ?_ _ | with_reducible refine Up.setCell ?_ (by (try simp) <;> omega) _ | with_reducible assumption | with_reducible refine Up.trans ?_ (by assumption)))
            have hz_w2 := Up.size hb_w2
            try simp at hz_w2
            obtain ⟨bc_w2_0, bf_w2_0⟩ := hu_w2.at_ (q) (by omega)
            have zb_w2_0 : q < w2.heap.size := by omega
            go_wp2_with fail
            refine wp_region_mix (NS := []) [] rfl (by kernel_rfl) (by kernel_rfl) (by simp) (by simp) ?_
            repeat (first
              | (refine mix_skip rfl rfl ?_; simp only [Act.put, List.setIfInBounds_toArray, List.set_cons_succ, List.set_cons_zero])
              | (refine mix_q rfl rfl rfl (by kernel_rfl) rfl rfl rfl ?_
                 apply Exists.intro
                 refine ⟨fun Wm => ?_, ?_⟩
                 · simp only [fin]
                   skip
                   intro K hK
                   go_wp2_with ((first | (go_at_call 34; (with_reducible refine (HW.out _ (HRR.out.up (hu_w2.trans (up_upOf _ _)))).mono ?_); rintro e w' ⟨rfl, hux⟩) | (go_at_call 121; (with_reducible refine (mod_is _ _ _ hm1 hm2).mono ?_); rintro e w' ⟨rfl, rfl⟩)))
                   refine hK _ _ ?_ ?_ ?_
                   · (repeat (first | with_reducible exact Up.refl _ | with_reducible refine Up.alloc ?_ _ | with_reducible refine Up.drew ?_ | with_reducible refine Up.drewN ?_ _ | with_reducible refine Up.setCell ?_ (by (try simp) <;> omega) _ | with_reducible assumption | with_reducible refine Up.trans ?_ (by assumption)))
                   · rfl
                   · exact tmps_at rfl
                 simp only [Act.put, List.setIfInBounds_toArray, List.set_cons_succ, List.set_cons_zero]))
            refine mix_nil ?_
            intro w3 hb_w3
            simp only [fin]
            have hu_w3 : Up w2 w3 := by (repeat (first | with_reducible exact Up.refl _ | with_reducible refine Up.alloc ?_ _ | with_reducible refine Up.drew ?_ | with_reducible refine Up.drewN ?_ _ | with_reducible refine Up.setCell ?_ (by (try simp) <;> omega) _ | with_reducible assumption | with_reducible refine Up.trans ?_ (by assumption)))
            have hz_w3 := Up.size hb_w3
            try simp at hz_w3
            obtain ⟨bc_w3_0, bf_w3_0⟩ := hu_w3.at_ (q) (by omega)
            have zb_w3_0 : q < w3.heap.size := by omega
            go_wp2_with fail
            go_roundw
            case rel => exact ⟨j + 1, by omega, by rw [HV.out], by rw [HV.out], by go_num, HUJ.out.trans (hb_w2.trans hb_w3)⟩
            case measure => simp [intOf]; omega
      · have hze : (dv == 0) = false := by simpa using hz
        have HDD := Lib.hid (show distS (m : Int) (wn : Int) s f = dv by rw [HDV.out]; rw [if_neg hz])
        by_cases hb : b1 < 0
        · have HV := Lib.hid (show bfn (m : Int) (wn : Int) s F (j + 1) = (f, dv) by rw [HSJ.out]; unfold stepN; rw [if_pos (.inl hb), HDD.out])
          go_wp2_with fail
          refine wp_region_mix (NS := []) [] rfl (by kernel_rfl) (by kernel_rfl) (by simp) (by simp) ?_
          repeat (first
            | (refine mix_skip rfl rfl ?_; simp only [Act.put, List.setIfInBounds_toArray, List.set_cons_succ, List.set_cons_zero])
            | (refine mix_q rfl rfl rfl (by kernel_rfl) rfl rfl rfl ?_
               apply Exists.intro
               refine ⟨fun Wm => ?_, ?_⟩
               · simp only [fin]
                 skip
                 intro K hK
                 go_wp2_with ((first | (go_at_call 34; (with_reducible refine (HW.out _ (HRR.out.up (up_upOf _ _))).mono ?_); rintro e w' ⟨rfl, hux⟩) | (go_at_call 121; (with_reducible refine (mod_is _ _ _ hm1 hm2).mono ?_); rintro e w' ⟨rfl, rfl⟩)))
                 refine hK _ _ ?_ ?_ ?_
                 · (repeat (first | with_reducible exact Up.refl _ | with_reducible refine Up.alloc ?_ _ | with_reducible refine Up.drew ?_ | with_reducible refine Up.drewN ?_ _ | with_reducible refine Up.setCell ?_ (by (try simp) <;> omega) _ | with_reducible assumption | with_reducible refine Up.trans ?_ (by assumption)))
                 · rfl
                 · exact tmps_at rfl
               simp only [Act.put, List.setIfInBounds_toArray, List.set_cons_succ, List.set_cons_zero]))
          refine mix_nil ?_
          intro w2 hb_w2
          simp only [fin]
          have hu_w2 : Up wr w2 := by (repeat (first | with_reducible exact Up.refl _ | with_reducible refine Up.alloc ?_ _ | with_reducible refine Up.drew ?_ | with_reducible refine Up.drewN ?_ _ | with_reducible refine Up.setCell ?_ (by (try simp) <;> omega) _ | with_reducible assumption | with_reducible refine Up.trans ?_ (by assumption)))
          have hz_w2 := Up.size hb_w2
          try simp at hz_w2
          obtain ⟨bc_w2_0, bf_w2_0⟩ := hu_w2.at_ (q) (by omega)
          have zb_w2_0 : q < w2.heap.size := by omega
          go_wp2_with fail
          refine wp_region_mix (NS := []) [] rfl (by kernel_rfl) (by kernel_rfl) (by simp) (by simp) ?_
          repeat (first
            | (refine mix_skip rfl rfl ?_; simp only [Act.put, List.setIfInBounds_toArray, List.set_cons_succ, List.set_cons_zero])
            | (refine mix_q rfl rfl rfl (by kernel_rfl) rfl rfl rfl ?_
               apply Exists.intro
               refine ⟨fun Wm => ?_, ?_⟩
               · simp only [fin]
                 skip
                 intro K hK
                 go_wp2_with ((first | (go_at_call 34; (with_reducible refine (HW.out _ (HRR.out.up (hu_w2.trans (up_upOf _ _)))).mono ?_); rintro e w' ⟨rfl, hux⟩) | (go_at_call 121; (with_reducible refine (mod_is _ _ _ hm1 hm2).mono ?_); rintro e w' ⟨rfl, rfl⟩)))
                 refine hK _ _ ?_ ?_ ?_
                 · (repeat (first | with_reducible exact Up.refl _ | with_reducible refine Up.alloc ?_ _ | with_reducible refine Up.drew ?_ | with_reducible refine Up.drewN ?_ _ | with_reducible refine Up.setCell ?_ (by (try simp) <;> omega) _ | with_reducible assumption | with_reducible refine Up.trans ?_ (by assumption)))
                 · rfl
                 · exact tmps_at rfl
               simp only [Act.put, List.setIfInBounds_toArray, List.set_cons_succ, List.set_cons_zero]))
          refine mix_nil ?_
          intro w3 hb_w3
          simp only [fin]
          have hu_w3 : Up w2 w3 := by (repeat (first | with_reducible exact Up.refl _ | with_reducible refine Up.alloc ?_ _ | with_reducible refine Up.drew ?_ | with_reducible refine Up.drewN ?_ _ | with_reducible refine Up.setCell ?_ (by (try simp) <;> omega) _ | with_reducible assumption | with_reducible refine Up.trans ?_ (by assumption)))
          have hz_w3 := Up.size hb_w3
          try simp at hz_w3
          obtain ⟨bc_w3_0, bf_w3_0⟩ := hu_w3.at_ (q) (by omega)
          have zb_w3_0 : q < w3.heap.size := by omega
          go_wp2_with fail
          go_roundw
          case rel => exact ⟨j + 1, by omega, by rw [HV.out], by rw [HV.out], by go_num, HUJ.out.trans (hb_w2.trans hb_w3)⟩
          case measure => simp [intOf]; omega
        · by_cases hd : dv < b2
          · have HV := Lib.hid (show bfn (m : Int) (wn : Int) s F (j + 1) = (f, dv) by rw [HSJ.out]; unfold stepN; rw [if_pos (.inr (by rw [HDD.out]; exact hd)), HDD.out])
            go_wp2_with fail
            refine wp_region_mix (NS := []) [] rfl (by kernel_rfl) (by kernel_rfl) (by simp) (by simp) ?_
            repeat (first
              | (refine mix_skip rfl rfl ?_; simp only [Act.put, List.setIfInBounds_toArray, List.set_cons_succ, List.set_cons_zero])
              | (refine mix_q rfl rfl rfl (by kernel_rfl) rfl rfl rfl ?_
                 apply Exists.intro
                 refine ⟨fun Wm => ?_, ?_⟩
                 · simp only [fin]
                   skip
                   intro K hK
                   go_wp2_with ((first | (go_at_call 34; (with_reducible refine (HW.out _ (HRR.out.up (up_upOf _ _))).mono ?_); rintro e w' ⟨rfl, hux⟩) | (go_at_call 121; (with_reducible refine (mod_is _ _ _ hm1 hm2).mono ?_); rintro e w' ⟨rfl, rfl⟩)))
                   refine hK _ _ ?_ ?_ ?_
                   · (repeat (first | with_reducible exact Up.refl _ | with_reducible refine Up.alloc ?_ _ | with_reducible refine Up.drew ?_ | with_reducible refine Up.drewN ?_ _ | with_reducible refine Up.setCell ?_ (by (try simp) <;> omega) _ | with_reducible assumption | with_reducible refine Up.trans ?_ (by assumption)))
                   · rfl
                   · exact tmps_at rfl
                 simp only [Act.put, List.setIfInBounds_toArray, List.set_cons_succ, List.set_cons_zero]))
            refine mix_nil ?_
            intro w2 hb_w2
            simp only [fin]
            have hu_w2 : Up wr w2 := by (repeat (first | with_reducible exact Up.refl _ | with_reducible refine Up.alloc ?_ _ | with_reducible refine Up.drew ?_ | with_reducible refine Up.drewN ?_ _ | with_reducible refine Up.setCell ?_ (by (try simp) <;> omega) _ | with_reducible assumption | with_reducible refine Up.trans ?_ (by assumption)))
            have hz_w2 := Up.size hb_w2
            try simp at hz_w2
            obtain ⟨bc_w2_0, bf_w2_0⟩ := hu_w2.at_ (q) (by omega)
            have zb_w2_0 : q < w2.heap.size := by omega
            go_wp2_with fail
            refine wp_region_mix (NS := []) [] rfl (by kernel_rfl) (by kernel_rfl) (by simp) (by simp) ?_
            repeat (first
              | (refine mix_skip rfl rfl ?_; simp only [Act.put, List.setIfInBounds_toArray, List.set_cons_succ, List.set_cons_zero])
              | (refine mix_q rfl rfl rfl (by kernel_rfl) rfl rfl rfl ?_
                 apply Exists.intro
                 refine ⟨fun Wm => ?_, ?_⟩
                 · simp only [fin]
                   skip
                   intro K hK
                   go_wp2_with ((first | (go_at_call 34; (with_reducible refine (HW.out _ (HRR.out.up (hu_w2.trans (up_upOf _ _)))).mono ?_); rintro e w' ⟨rfl, hux⟩) | (go_at_call 121; (with_reducible refine (mod_is _ _ _ hm1 hm2).mono ?_); rintro e w' ⟨rfl, rfl⟩)))
                   refine hK _ _ ?_ ?_ ?_
                   · (repeat (first | with_reducible exact Up.refl _ | with_reducible refine Up.alloc ?_ _ | with_reducible refine Up.drew ?_ | with_reducible refine Up.drewN ?_ _ | with_reducible refine Up.setCell ?_ (by (try simp) <;> omega) _ | with_reducible assumption | with_reducible refine Up.trans ?_ (by assumption)))
                   · rfl
                   · exact tmps_at rfl
                 simp only [Act.put, List.setIfInBounds_toArray, List.set_cons_succ, List.set_cons_zero]))
            refine mix_nil ?_
            intro w3 hb_w3
            simp only [fin]
            have hu_w3 : Up w2 w3 := by (repeat (first | with_reducible exact Up.refl _ | with_reducible refine Up.alloc ?_ _ | with_reducible refine Up.drew ?_ | with_reducible refine Up.drewN ?_ _ | with_reducible refine Up.setCell ?_ (by (try simp) <;> omega) _ | with_reducible assumption | with_reducible refine Up.trans ?_ (by assumption)))
            have hz_w3 := Up.size hb_w3
            try simp at hz_w3
            obtain ⟨bc_w3_0, bf_w3_0⟩ := hu_w3.at_ (q) (by omega)
            have zb_w3_0 : q < w3.heap.size := by omega
            go_wp2_with fail
            go_roundw
            case rel => exact ⟨j + 1, by omega, by rw [HV.out], by rw [HV.out], by go_num, HUJ.out.trans (hb_w2.trans hb_w3)⟩
            case measure => simp [intOf]; omega
          · have HV := Lib.hid (show bfn (m : Int) (wn : Int) s F (j + 1) = (b1, b2) by rw [HSJ.out]; unfold stepN; rw [if_neg (by rw [HDD.out]; intro e; rcases e with e | e; exact hb e; exact hd e)])
            go_wp2_with fail
            refine wp_region_mix (NS := []) [] rfl (by kernel_rfl) (by kernel_rfl) (by simp) (by simp) ?_
            repeat (first
              | (refine mix_skip rfl rfl ?_; simp only [Act.put, List.setIfInBounds_toArray, List.set_cons_succ, List.set_cons_zero])
              | (refine mix_q rfl rfl rfl (by kernel_rfl) rfl rfl rfl ?_
                 apply Exists.intro
                 refine ⟨fun Wm => ?_, ?_⟩
                 · simp only [fin]
                   skip
                   intro K hK
                   go_wp2_with ((first | (go_at_call 34; (with_reducible refine (HW.out _ (HRR.out.up (up_upOf _ _))).mono ?_); rintro e w' ⟨rfl, hux⟩) | (go_at_call 121; (with_reducible refine (mod_is _ _ _ hm1 hm2).mono ?_); rintro e w' ⟨rfl, rfl⟩)))
                   refine hK _ _ ?_ ?_ ?_
                   · (repeat (first | with_reducible exact Up.refl _ | with_reducible refine Up.alloc ?_ _ | with_reducible refine Up.drew ?_ | with_reducible refine Up.drewN ?_ _ | with_reducible refine Up.setCell ?_ (by (try simp) <;> omega) _ | with_reducible assumption | with_reducible refine Up.trans ?_ (by assumption)))
                   · rfl
                   · exact tmps_at rfl
                 simp only [Act.put, List.setIfInBounds_toArray, List.set_cons_succ, List.set_cons_zero]))
            refine mix_nil ?_
            intro w2 hb_w2
            simp only [fin]
            have hu_w2 : Up wr w2 := by (repeat (first | with_reducible exact Up.refl _ | with_reducible refine Up.alloc ?_ _ | with_reducible refine Up.drew ?_ | with_reducible refine Up.drewN ?_ _ | with_reducible refine Up.setCell ?_ (by (try simp) <;> omega) _ | with_reducible assumption | with_reducible refine Up.trans ?_ (by assumption)))
            have hz_w2 := Up.size hb_w2
            try simp at hz_w2
            obtain ⟨bc_w2_0, bf_w2_0⟩ := hu_w2.at_ (q) (by omega)
            have zb_w2_0 : q < w2.heap.size := by omega
            go_wp2_with fail
            refine wp_region_mix (NS := []) [] rfl (by kernel_rfl) (by kernel_rfl) (by simp) (by simp) ?_
            repeat (first
              | (refine mix_skip rfl rfl ?_; simp only [Act.put, List.setIfInBounds_toArray, List.set_cons_succ, List.set_cons_zero])
              | (refine mix_q rfl rfl rfl (by kernel_rfl) rfl rfl rfl ?_
                 apply Exists.intro
                 refine ⟨fun Wm => ?_, ?_⟩
                 · simp only [fin]
                   skip
                   intro K hK
                   go_wp2_with ((first | (go_at_call 34; (with_reducible refine (HW.out _ (HRR.out.up (hu_w2.trans (up_upOf _ _)))).mono ?_); rintro e w' ⟨rfl, hux⟩) | (go_at_call 121; (with_reducible refine (mod_is _ _ _ hm1 hm2).mono ?_); rintro e w' ⟨rfl, rfl⟩)))
                   refine hK _ _ ?_ ?_ ?_
                   · (repeat (first | with_reducible exact Up.refl _ | with_reducible refine Up.alloc ?_ _ | with_reducible refine Up.drew ?_ | with_reducible refine Up.drewN ?_ _ | with_reducible refine Up.setCell ?_ (by (try simp) <;> omega) _ | with_reducible assumption | with_reducible refine Up.trans ?_ (by assumption)))
                   · rfl
                   · exact tmps_at rfl
                 simp only [Act.put, List.setIfInBounds_toArray, List.set_cons_succ, List.set_cons_zero]))
            refine mix_nil ?_
            intro w3 hb_w3
            simp only [fin]
            have hu_w3 : Up w2 w3 := by (repeat (first | with_reducible exact Up.refl _ | with_reducible refine Up.alloc ?_ _ | with_reducible refine Up.drew ?_ | with_reducible refine Up.drewN ?_ _ | with_reducible refine Up.setCell ?_ (by (try simp) <;> omega) _ | with_reducible assumption | with_reducible refine Up.trans ?_ (by assumption)))
            have hz_w3 := Up.size hb_w3
            try simp at hz_w3
            obtain ⟨bc_w3_0, bf_w3_0⟩ := hu_w3.at_ (q) (by omega)
            have zb_w3_0 : q < w3.heap.size := by omega
            go_wp2_with fail
            go_roundw
            case rel => exact ⟨j + 1, by omega, by rw [HV.out], by rw [HV.out], by go_num, HUJ.out.trans (hb_w2.trans hb_w3)⟩
            case measure => simp [intOf]; omega
    · obtain rfl : j = nl := by omega
      have HA := Lib.hid HNX.out
      rw [HBJ.out] at HA
      go_wp2_with fail
      go_ret
      exact ⟨by rw [← HA.out]; rfl, HU1.out.trans HUJ.out⟩
end Go.Proofs.Ytjokcfenncogkaa
namespace Go.Proofs.Ytjokcfenncogkaa
open Go.RowKit Go.Shelf
set_option linter.unusedVariables false
set_option linter.unusedSimpArgs false

/-- may one write in k's field? -/
def Spc.wrB (X : Spc) (k : Int) : Bool := decide (X.start k < 0) || !fP (X.at_ (X.start k)).fa
theorem open_wr (X : Spc) (n : Int) : X.open_ n = (!X.isA n && X.wrB n) := rfl
def rngW (X : Spc) (l : List Int) : Nat → Int := fun k => if (k : Int) ∈ l ∧ X.wrB (k : Int) = true then 0 else X.ch0 k
theorem rngW_b {X : Spc} (ok : X.Ok) (l : List Int) (k : Nat) : isB (rngW X l k) := by
  unfold rngW
  split
  · exact ⟨by omega, by omega⟩
  · exact ch0_b ok k
theorem rngW_nil (X : Spc) : rngW X [] = X.ch0 := by funext k; simp [rngW]
theorem rngW_no {X : Spc} {l : List Int} {x : Int} (h : X.wrB x = false) : rngW X (l ++ [x]) = rngW X l := by
  funext k
  unfold rngW
  by_cases hk : (k : Int) = x
  · rw [hk, h]; simp
  · simp [hk]
theorem rngW_yes {X : Spc} {l : List Int} {x : Int} (h : X.wrB x = true) (h0 : 0 ≤ x) (h1 : x < X.r * X.c) : rngW X (l ++ [x]) = updG (rngW X l) (X.wrap x) 0 := by
  have hw := wrap_at h0 h1
  funext k
  unfold updG
  by_cases hk : k = X.wrap x
  · rw [if_pos hk]
    unfold rngW
    rw [if_pos ⟨by rw [hk, hw]; simp, by rw [hk, hw]; exact h⟩]
  · rw [if_neg hk]
    have h2 : ¬ (k : Int) = x := fun e => hk (by omega)
    unfold rngW
    simp [h2]
theorem rngW_G {X : Spc} (ok : X.Ok) (l : List Int) : chs X (rngW X l) = X.rngA l := by
  unfold Spc.rngA
  refine chs_ext ok fun k hk hA => ?_
  unfold rngW rngG
  rw [open_wr, hA]
  rfl
/-- the document's: a field's attribute is unmodified, if it isn't protected -/
def clnS (Y : Spc) (a : Int) : Spc := if fP (Y.at_ a).fa then Y else Y.set a (Y.at_ a).clean
def clnL (Y : Spc) (l : List Int) : Spc := l.foldl clnS Y
theorem clnL_snoc (X : Spc) (l : List Int) (a : Int) : clnL X (l ++ [a]) = clnS (clnL X l) a := by simp [clnL]
theorem clnS_ok {Y : Spc} (ok : Y.Ok) (a : Int) : (clnS Y a).Ok ∧ Alk Y (clnS Y a) := by
  unfold clnS
  split
  · exact ⟨ok, Alk.refl Y⟩
  · obtain ⟨h2, h3⟩ := unmod_set ok a
    exact ⟨h2, rfl, rfl, Spc.set_len _ _ _, h3⟩
theorem clnL_ok {X : Spc} (ok : X.Ok) (l : List Int) : (clnL X l).Ok ∧ Alk X (clnL X l) := by
  unfold clnL
  induction l generalizing X with
  | nil => exact ⟨ok, Alk.refl X⟩
  | cons a l ih =>
    obtain ⟨h1, h2⟩ := clnS_ok ok a
    obtain ⟨h3, h4⟩ := ih h1
    exact ⟨h3, h2.trans h4⟩
theorem cleanP_tab : ∀ k : Fin 256, fP (six05 (bits .andNot .u8 (k.val : Int) 1)) = fP (k.val : Int) := by decide +kernel
theorem cleanP {d : Cl} (h : d.Wf) (hf : d.fit = d) : fP d.clean.fit.fa = fP d.fa := by
  have h1 := cleanP_tab ⟨d.fa.toNat, by have := h.fa.2; omega⟩
  have h0 : ((d.fa.toNat : Nat) : Int) = d.fa := by have := h.fa.1; omega
  simp only [h0] at h1
  have h2 := congrArg Cl.fa hf
  unfold Cl.clean Cl.fit at *
  cases hd : d.at_
  · rw [hd] at h2
    simp only [Bool.false_eq_true, if_false] at h2 ⊢
    rw [← h2]
  · simp only [if_true]
    exact h1
theorem at_fit {X : Spc} (ok : X.Ok) {n : Int} : (X.at_ n).fit = X.at_ n := by
  obtain ⟨e, h⟩ := ok.wrap n
  have : X.at_ n = X.at_ ((X.wrap n : Nat) : Int) := Spc.at_congr (by rw [← e]; simp)
  rw [this]
  exact ok.fit _ (List.mem_of_getElem? (Spc.at_nat ok h))
theorem clnL_at {X : Spc} (ok : X.Ok) (l : List Int) (k : Int) : (clnL X l).at_ k = if (∃ a ∈ l, k % (X.r * X.c) = a % (X.r * X.c)) ∧ ¬ fP (X.at_ k).fa = true then (X.at_ k).clean.fit else X.at_ k := by
  induction l generalizing X with
  | nil => rw [if_neg (by simp)]; rfl
  | cons a l ih =>
    obtain ⟨h1, h2⟩ := clnS_ok ok a
    show (clnL (clnS X a) l).at_ k = _
    rw [ih h1, h2.r, h2.c]
    have hat : (clnS X a).at_ k = if k % (X.r * X.c) = a % (X.r * X.c) ∧ ¬ fP (X.at_ k).fa = true then (X.at_ k).clean.fit else X.at_ k := by
      by_cases hm : k % (X.r * X.c) = a % (X.r * X.c)
      · have e : X.at_ a = X.at_ k := Spc.at_congr hm.symm
        unfold clnS
        rw [e]
        by_cases hp : fP (X.at_ k).fa = true
        · rw [if_pos hp, if_neg (by simp [hp])]
        · rw [if_neg hp, if_pos ⟨hm, hp⟩, at_set14 ok, if_pos hm]
      · rw [if_neg (fun h => hm h.1)]
        unfold clnS
        split
        · rfl
        · rw [at_set14 ok, if_neg hm]
    by_cases hp : fP (X.at_ k).fa = true
    · rw [hat, if_neg (c := k % (X.r * X.c) = a % (X.r * X.c) ∧ ¬ fP (X.at_ k).fa = true) (fun h => h.2 hp), if_neg (fun h => h.2 hp), if_neg (fun h => h.2 hp)]
    · by_cases hm : k % (X.r * X.c) = a % (X.r * X.c)
      · rw [hat, if_pos (c := k % (X.r * X.c) = a % (X.r * X.c) ∧ ¬ fP (X.at_ k).fa = true) ⟨hm, hp⟩, if_pos (c := (∃ b ∈ a :: l, k % (X.r * X.c) = b % (X.r * X.c)) ∧ ¬ fP (X.at_ k).fa = true) ⟨⟨a, by simp, hm⟩, hp⟩]
        split
        · exact clean_fit (ok.at_wf k)
        · rfl
      · rw [hat, if_neg (c := k % (X.r * X.c) = a % (X.r * X.c) ∧ ¬ fP (X.at_ k).fa = true) (fun h => hm h.1)]
        by_cases hl : ∃ b ∈ l, k % (X.r * X.c) = b % (X.r * X.c)
        · rw [if_pos ⟨hl, hp⟩, if_pos ⟨by obtain ⟨b, hb, e⟩ := hl; exact ⟨b, by simp [hb], e⟩, hp⟩]
        · rw [if_neg (fun h => hl h.1), if_neg (fun h => by
            obtain ⟨⟨b, hb, e⟩, _⟩ := h
            rcases List.mem_cons.1 hb with rfl | hb
            · exact hm e
            · exact hl ⟨b, hb, e⟩)]
theorem unpS_attr {X : Spc} (ok : X.Ok) {a : Int} (hA : X.isA a = true) {k : Int} (hk : X.isA k = true) : (unpS X a).at_ k = if k % (X.r * X.c) = a % (X.r * X.c) ∧ ¬ fP (X.at_ k).fa = true then (X.at_ k).clean.fit else X.at_ k := by
  have hn : ∀ n, X.isA n = true → (X.nulF (X.places a)).at_ n = X.at_ n := fun n h => by
    unfold Spc.nulF
    rw [chs_at ok]
    unfold putC
    unfold Spc.isA at h
    rw [if_pos h]
  by_cases hp : fP (X.at_ a).fa = true
  · rw [unpS_p hp]
    split
    · rename_i h
      rw [Spc.at_congr h.1] at h
      exact absurd hp h.2
    · rfl
  · rw [unpS_at ok hp]
    by_cases hm : k % (X.r * X.c) = a % (X.r * X.c)
    · have e : X.at_ k = X.at_ a := Spc.at_congr hm
      rw [if_pos hm, e, if_pos ⟨hm, hp⟩, hn a hA]
    · rw [if_neg hm, if_neg (fun h => hm h.1), hn k hk]
theorem unpS_code {X : Spc} (ok : X.Ok) {a : Int} (hA : X.isA a = true) {k : Nat} (hk : k < X.L.length) (hkA : X.isA (k : Int) = false) : (unpS X a).at_ (k : Int) = if ¬ fP (X.at_ a).fa = true ∧ (k : Int) ∈ X.places a then putC (X.at_ (k : Int)) 0 else X.at_ (k : Int) := by
  by_cases hp : fP (X.at_ a).fa = true
  · rw [unpS_p hp, if_neg (fun h => h.1 hp)]
  · rw [unpS_at ok hp]
    have hm : ¬ (k : Int) % (X.r * X.c) = a % (X.r * X.c) := fun e => by
      rw [Spc.isA_congr e, hA] at hkA
      cases hkA
    rw [if_neg hm]
    unfold Spc.nulF
    rw [chs_at ok, wrap_n14 ok hk]
    unfold endG
    by_cases hin : (k : Int) ∈ X.places a
    · rw [if_pos hin, if_pos ⟨hp, hin⟩]
    · rw [if_neg hin, if_neg (fun h => hin h.2)]
      exact putC_self _
theorem unpL_attr {X : Spc} (ok : X.Ok) (l : List Int) (hl : ∀ a ∈ l, X.isA a = true) {k : Int} (hk : X.isA k = true) : (unpL X l).at_ k = if (∃ a ∈ l, k % (X.r * X.c) = a % (X.r * X.c)) ∧ ¬ fP (X.at_ k).fa = true then (X.at_ k).clean.fit else X.at_ k := by
  induction l generalizing X with
  | nil => rw [if_neg (by simp)]; rfl
  | cons a l ih =>
    obtain ⟨h1, h2⟩ := unpS_ok ok a
    have hA := hl a (by simp)
    rw [unpL_cons, ih h1 (fun b hb => by rw [h2.at_]; exact hl b (by simp [hb])) (by rw [h2.at_]; exact hk), h2.r, h2.c]
    have hat := unpS_attr ok hA hk
    by_cases hp : fP (X.at_ k).fa = true
    · rw [hat, if_neg (c := k % (X.r * X.c) = a % (X.r * X.c) ∧ ¬ fP (X.at_ k).fa = true) (fun h => h.2 hp), if_neg (fun h => h.2 hp), if_neg (fun h => h.2 hp)]
    · by_cases hm : k % (X.r * X.c) = a % (X.r * X.c)
      · rw [hat, if_pos (c := k % (X.r * X.c) = a % (X.r * X.c) ∧ ¬ fP (X.at_ k).fa = true) ⟨hm, hp⟩, if_pos (c := (∃ b ∈ a :: l, k % (X.r * X.c) = b % (X.r * X.c)) ∧ ¬ fP (X.at_ k).fa = true) ⟨⟨a, by simp, hm⟩, hp⟩]
        split
        · exact clean_fit (ok.at_wf k)
        · rfl
      · rw [hat, if_neg (c := k % (X.r * X.c) = a % (X.r * X.c) ∧ ¬ fP (X.at_ k).fa = true) (fun h => hm h.1)]
        by_cases hl : ∃ b ∈ l, k % (X.r * X.c) = b % (X.r * X.c)
        · rw [if_pos ⟨hl, hp⟩, if_pos ⟨by obtain ⟨b, hb, e⟩ := hl; exact ⟨b, by simp [hb], e⟩, hp⟩]
        · rw [if_neg (fun h => hl h.1), if_neg (fun h => by
            obtain ⟨⟨b, hb, e⟩, _⟩ := h
            rcases List.mem_cons.1 hb with rfl | hb
            · exact hm e
            · exact hl ⟨b, hb, e⟩)]
theorem unpS_fP {X : Spc} (ok : X.Ok) {a : Int} (hA : X.isA a = true) {b : Int} (hb : X.isA b = true) : fP ((unpS X a).at_ b).fa = fP (X.at_ b).fa := by
  rw [unpS_attr ok hA hb]
  split
  · exact cleanP (ok.at_wf b) (at_fit ok)
  · rfl
theorem putC_put (d : Cl) : putC (putC d 0) 0 = putC d 0 := putC_putC d 0 0
theorem unpL_code {X : Spc} (ok : X.Ok) (l : List Int) (hl : ∀ a ∈ l, X.isA a = true) {k : Nat} (hk : k < X.L.length) (hkA : X.isA (k : Int) = false) : (unpL X l).at_ (k : Int) = if ∃ a ∈ l, ¬ fP (X.at_ a).fa = true ∧ (k : Int) ∈ X.places a then putC (X.at_ (k : Int)) 0 else X.at_ (k : Int) := by
  induction l generalizing X with
  | nil => rw [if_neg (by simp)]; rfl
  | cons a l ih =>
    obtain ⟨h1, h2⟩ := unpS_ok ok a
    have hA := hl a (by simp)
    rw [unpL_cons, ih h1 (fun b hb => by rw [h2.at_]; exact hl b (by simp [hb])) (by rw [h2.len]; exact hk) (by rw [h2.at_]; exact hkA), unpS_code ok hA hk hkA]
    have hiff : (∃ b ∈ l, ¬ fP ((unpS X a).at_ b).fa = true ∧ (k : Int) ∈ (unpS X a).places b) ↔ (∃ b ∈ l, ¬ fP (X.at_ b).fa = true ∧ (k : Int) ∈ X.places b) :=
      ⟨fun ⟨b, hb, e1, e2⟩ => ⟨b, hb, by rw [unpS_fP ok hA (hl b (by simp [hb]))] at e1; exact e1, by rw [h2.places] at e2; exact e2⟩, fun ⟨b, hb, e1, e2⟩ => ⟨b, hb, by rw [unpS_fP ok hA (hl b (by simp [hb]))]; exact e1, by rw [h2.places]; exact e2⟩⟩
    by_cases ha : ¬ fP (X.at_ a).fa = true ∧ (k : Int) ∈ X.places a
    · rw [if_pos ha, if_pos (c := ∃ b ∈ a :: l, ¬ fP (X.at_ b).fa = true ∧ (k : Int) ∈ X.places b) ⟨a, by simp, ha⟩]
      split
      · exact putC_put _
      · rfl
    · rw [if_neg ha]
      by_cases hb : ∃ b ∈ l, ¬ fP (X.at_ b).fa = true ∧ (k : Int) ∈ X.places b
      · rw [if_pos (hiff.2 hb), if_pos (c := ∃ b ∈ a :: l, ¬ fP (X.at_ b).fa = true ∧ (k : Int) ∈ X.places b) (by obtain ⟨b, hb1, hb2⟩ := hb; exact ⟨b, by simp [hb1], hb2⟩)]
      · rw [if_neg (fun h => hb (hiff.1 h)), if_neg (fun h => by
          obtain ⟨b, hb1, hb2⟩ := h
          rcases List.mem_cons.1 hb1 with rfl | hb1
          · exact ha hb2
          · exact hb ⟨b, hb1, hb2⟩)]
/-- a place is one of its field's alone -/
theorem places_start {X : Spc} (ok : X.Ok) {a : Int} (hA : X.isA a = true) (h0 : 0 ≤ a) (h1 : a < X.r * X.c) {k : Int} (hk : k ∈ X.places a) : X.start k = a := by
  unfold Spc.places at hk
  rw [if_pos hA] at hk
  unfold stepsL at hk
  rw [List.mem_map] at hk
  obtain ⟨i, hi, he⟩ := hk
  simp at hi
  rw [← he, start_emod, start_step ok hA hi]
  exact Int.emod_eq_of_lt h0 h1
theorem Spc.ext_cells {X Y Z : Spc} (hY : Alk X Y) (hZ : Alk X Z) (okY : Y.Ok) (okZ : Z.Ok) (hm : Y.model = Z.model) (ha : Y.alt = Z.alt) (hc : Y.cur = Z.cur) (h : ∀ k : Nat, k < X.L.length → Y.at_ (k : Int) = Z.at_ (k : Int)) : Y = Z := by
  have hL : Y.L = Z.L := by
    refine List.ext_getElem? fun k => ?_
    by_cases hk : k < X.L.length
    · rw [Spc.at_nat okY (by rw [hY.len]; exact hk), Spc.at_nat okZ (by rw [hZ.len]; exact hk), h k hk]
    · rw [List.getElem?_eq_none (by rw [hY.len]; omega), List.getElem?_eq_none (by rw [hZ.len]; omega)]
  have hr : Y.r = Z.r := hY.r.trans hZ.r.symm
  have hcc : Y.c = Z.c := hY.c.trans hZ.c.symm
  cases Y; cases Z
  simp only at *
  subst hm ha hc hL hr hcc
  rfl
def ints (n : Nat) : List Int := (List.range n).map fun i : Nat => (i : Int)
theorem ints_mem {n k : Nat} : (k : Int) ∈ ints n ↔ k < n := by
  unfold ints
  rw [List.mem_map]
  exact ⟨fun ⟨i, hi, e⟩ => by have := List.mem_range.1 hi; omega, fun h => ⟨k, List.mem_range.2 h, rfl⟩⟩
theorem ints_len (n : Nat) : (ints n).length = n := by simp [ints]
theorem ints_take {n j : Nat} (h : j < n) : (ints n).take (j + 1) = (ints n).take j ++ [(j : Int)] := by
  rw [List.take_succ_eq_append_getElem (by rw [ints_len]; exact h)]
  simp [ints]
theorem unpS_model (Y : Spc) (a : Int) : (unpS Y a).model = Y.model ∧ (unpS Y a).alt = Y.alt ∧ (unpS Y a).cur = Y.cur := by
  unfold unpS
  split <;> exact ⟨rfl, rfl, rfl⟩
theorem unpL_model (l : List Int) : ∀ Y : Spc, (unpL Y l).model = Y.model ∧ (unpL Y l).alt = Y.alt ∧ (unpL Y l).cur = Y.cur := by
  induction l with
  | nil => exact fun Y => ⟨rfl, rfl, rfl⟩
  | cons a l ih =>
    intro Y
    obtain ⟨h1, h2, h3⟩ := ih (unpS Y a)
    obtain ⟨k1, k2, k3⟩ := unpS_model Y a
    rw [unpL_cons]
    exact ⟨h1.trans k1, h2.trans k2, h3.trans k3⟩
theorem clnS_model (Y : Spc) (a : Int) : (clnS Y a).model = Y.model ∧ (clnS Y a).alt = Y.alt ∧ (clnS Y a).cur = Y.cur := by
  unfold clnS
  split <;> exact ⟨rfl, rfl, rfl⟩
theorem clnL_model (l : List Int) : ∀ Y : Spc, (clnL Y l).model = Y.model ∧ (clnL Y l).alt = Y.alt ∧ (clnL Y l).cur = Y.cur := by
  induction l with
  | nil => exact fun Y => ⟨rfl, rfl, rfl⟩
  | cons a l ih =>
    intro Y
    obtain ⟨h1, h2, h3⟩ := ih (clnS Y a)
    obtain ⟨k1, k2, k3⟩ := clnS_model Y a
    exact ⟨h1.trans k1, h2.trans k2, h3.trans k3⟩
/-- the document's, of all -/
def Spc.refU (X : Spc) : Spc := clnL (chs X (rngW X (ints X.L.length))) X.attrs
theorem refU_ok {X : Spc} (ok : X.Ok) : X.refU.Ok ∧ Alk X X.refU := by
  obtain ⟨h1, h2⟩ := clnL_ok (chs_ok ok (rngW_b ok (ints X.L.length))) X.attrs
  exact ⟨h1, (chs_alk X _).trans h2⟩
theorem attrs_mem {X : Spc} (ok : X.Ok) {a : Int} (h : a ∈ X.attrs) : X.isA a = true ∧ 0 ≤ a ∧ a < X.r * X.c := by
  obtain ⟨k, rfl, h2, h3⟩ := mem_those.1 (show a ∈ those (isAt X.L) X.L.length from h)
  exact ⟨by rw [Spc.isA_nat ok h2]; exact h3, by omega, by have := ok.len; omega⟩
theorem attrs_of {X : Spc} (ok : X.Ok) {a : Int} (h0 : 0 ≤ a) (h1 : a < X.r * X.c) (hA : X.isA a = true) : a ∈ X.attrs := by
  have hl := ok.len
  refine mem_those.2 ⟨a.toNat, by omega, by omega, ?_⟩
  rw [← Spc.isA_nat ok (by omega), show ((a.toNat : Nat) : Int) = a by omega]
  exact hA
theorem unp_eq {X : Spc} (ok : X.Ok) (h : 0 < attrsN X.L) : unpL X X.attrs = X.refU := by
  obtain ⟨u1, u2⟩ := unpL_ok ok X.attrs
  obtain ⟨r1, r2⟩ := refU_ok ok
  obtain ⟨m1, m2, m3⟩ := unpL_model X.attrs X
  obtain ⟨n1, n2, n3⟩ := clnL_model X.attrs (chs X (rngW X (ints X.L.length)))
  refine Spc.ext_cells u2 r2 u1 r1 (m1.trans n1.symm) (m2.trans n2.symm) (m3.trans n3.symm) fun k hk => ?_
  have hc := chs_ok ok (rngW_b ok (ints X.L.length))
  unfold Spc.refU
  rw [clnL_at hc]
  show _ = if (∃ a ∈ X.attrs, (k : Int) % (X.r * X.c) = a % (X.r * X.c)) ∧ _ then _ else _
  cases hkA : X.isA (k : Int)
  · have e1 : ∀ P : Prop, ¬ ((∃ a ∈ X.attrs, (k : Int) % (X.r * X.c) = a % (X.r * X.c)) ∧ P) := fun P hh => by
      obtain ⟨⟨a, ha, e⟩, _⟩ := hh
      rw [Spc.isA_congr e, (attrs_mem ok ha).1] at hkA
      cases hkA
    refine Eq.trans ?_ (if_neg (e1 _)).symm
    rw [unpL_code ok _ (fun a ha => (attrs_mem ok ha).1) hk hkA, chs_at ok, wrap_n14 ok hk]
    unfold rngW
    have hst : 0 ≤ X.start (k : Int) := by
      rcases Int.lt_or_le (X.start (k : Int)) 0 with h1 | h1
      · exact absurd h (start_neg ok _ h1)
      · exact h1
    have hlt : X.start (k : Int) < X.r * X.c := by rcases start_range ok (k : Int) with h6 | h6 <;> omega
    have hsA := start_attr ok hst
    by_cases hw : X.wrB (k : Int) = true
    · rw [if_pos (c := (k : Int) ∈ ints X.L.length ∧ X.wrB (k : Int) = true) ⟨ints_mem.2 hk, hw⟩, if_pos (c := ∃ a ∈ X.attrs, ¬ fP (X.at_ a).fa = true ∧ (k : Int) ∈ X.places a) ⟨X.start (k : Int), attrs_of ok hst hlt hsA, by
        unfold Spc.wrB at hw
        rw [show decide (X.start (k : Int) < 0) = false by simp; omega] at hw
        simpa using hw, by
        have := place_mem ok hkA hst
        rwa [Int.emod_eq_of_lt (by omega) (by have := ok.len; omega)] at this⟩]
    · rw [if_neg (c := (k : Int) ∈ ints X.L.length ∧ X.wrB (k : Int) = true) (fun hh => hw hh.2), if_neg (c := ∃ a ∈ X.attrs, ¬ fP (X.at_ a).fa = true ∧ (k : Int) ∈ X.places a) (fun hh => by
        obtain ⟨a, ha, e1, e2⟩ := hh
        obtain ⟨a1, a2, a3⟩ := attrs_mem ok ha
        have := places_start ok a1 a2 a3 e2
        apply hw
        unfold Spc.wrB
        rw [this]
        simp [e1])]
      exact (putC_self _).symm
  · have e : (chs X (rngW X (ints X.L.length))).at_ (k : Int) = X.at_ (k : Int) := by
      rw [chs_at ok]
      unfold putC
      unfold Spc.isA at hkA
      rw [if_pos hkA]
    rw [unpL_attr ok _ (fun a ha => (attrs_mem ok ha).1) hkA, e]
    by_cases hh : (∃ a ∈ X.attrs, (k : Int) % (X.r * X.c) = a % (X.r * X.c)) ∧ ¬ fP (X.at_ (k : Int)).fa = true
    · rw [if_pos hh]; exact (if_pos hh).symm
    · rw [if_neg hh]; exact (if_neg hh).symm
theorem unf_eq {X : Spc} (ok : X.Ok) (h : ¬ 0 < attrsN X.L) : X.allA = X.refU := by
  have ha : X.attrs = [] := by
    have := attrs_len13 X
    exact List.eq_nil_of_length_eq_zero (by omega)
  unfold Spc.refU
  rw [ha]
  show X.allA = chs X (rngW X (ints X.L.length))
  unfold Spc.allA
  refine chs_ext ok fun k hk hA => ?_
  unfold rngW
  rw [if_pos ⟨ints_mem.2 hk, by unfold Spc.wrB; rw [start_none ok _ h]; rfl⟩]
end Go.Proofs.Ytjokcfenncogkaa
namespace Go.Proofs.Ytjokcfenncogkaa
open Go.RowKit Go.Shelf
set_option linter.unusedVariables false
set_option linter.unusedSimpArgs false

theorem OwnI.elt {B : Nat} {W : World} {A : Option Addr} {n c : Nat} {l : List Int} (h : OwnI B W A n c l) {j : Nat} (hj : j < n) : ∃ b off, A = some ⟨b, off, none⟩ ∧ b < W.heap.size ∧ B ≤ b ∧ W.cell? ⟨b, off + j, none⟩ = some (.int .i64 (l.getD j 0)) := by
  have hr := h.reads
  obtain ⟨b, off, rfl, hb⟩ := hr.form (by omega)
  obtain ⟨hbl, u, hu, hc⟩ := hr.at_ (j := j) (by omega)
  have hl := h.len
  refine ⟨b, off, rfl, hb, (h.at_ _ rfl).1, ?_⟩
  rw [hc]
  unfold ns at hu
  rw [List.getElem?_map, List.getElem?_eq_getElem (show j < l.length by omega)] at hu
  injection hu with hu
  rw [← hu, List.getD, List.getElem?_eq_getElem (show j < l.length by omega)]
  rfl
theorem take_one {l : List Int} {j : Nat} (h : j < l.length) : l.take (j + 1) = l.take j ++ [l.getD j 0] := by
  rw [List.take_succ_eq_append_getElem h, List.getD, List.getElem?_eq_getElem h]
  rfl
theorem betw_len (X : Spc) (a b : Int) : (X.betw a b).length = X.lenA a b := by simp [Spc.betw, placesN]
theorem betw_bd {X : Spc} (ok : X.Ok) (a b : Int) : ∀ x ∈ X.betw a b, 0 ≤ x ∧ x < X.r * X.c := fun x hx => by
  have hp := Spc.pos ok
  unfold Spc.betw placesN at hx
  rw [List.mem_map] at hx
  obtain ⟨i, _, rfl⟩ := hx
  exact ⟨Int.emod_nonneg _ (by omega), Int.emod_lt_of_pos _ hp⟩
theorem rspan_own {X : Spc} (ok : X.Ok) (a b : Int) (w : World) :
    Calls Try.prog 162 #[.agg #[.int .i64 X.r, .int .i64 X.c], .int .i64 a, .int .i64 b] w fun e w' => ∃ A c, e = .returned (.slice A (X.lenA a b) c) ∧ OwnI w.heap.size w' A (X.lenA a b) c (X.betw a b) ∧ Up w w' := by
  refine (rspan_good ok.valid rfl (lenA_is ok a b)).mono ?_
  rintro e w' ⟨A, c, rfl, h1, h2, h3, h4⟩
  exact ⟨A, c, rfl, ⟨h1, betw_len X a b, h2, h3⟩, h4⟩
theorem lenA_small {X : Spc} (ok : X.Ok) (a b : Int) : X.lenA a b ≤ 65536 := by
  have h1 := lenA_is ok a b
  have h2 := Spc.pos ok
  have h3 := Int.emod_lt_of_pos (b - a) h2
  have h4 := ok.len
  have h5 := ok.small
  unfold lenN at h1
  split at h1 <;> omega
set_option maxRecDepth 100000 in
set_option maxHeartbeats 3200000 in
theorem rrepeat_is {q h : Nat} {X : Spc} {w : World} {a b : Int} {c : Cl} (hcw : c.Wf) (hr : RAt w q h X) (ok : X.Ok) :
    Calls Try.prog 146 #[.pointer (some ⟨q, 0, none⟩), .int .i64 a, .int .i64 b, .agg #[.int .u8 c.ch, .bool c.at_, .int .u8 c.fa, .int .u8 c.hi, .int .u8 c.co, .int .u8 c.se]] w fun e w' => e = .returned (.int .i64 (X.lenA a b : Int)) ∧ RAt w' q h (X.repA (X.betw a b) c) ∧ Keep (two q h) w w' := by
  have HR := Lib.hid hr
  have HS := Lib.hid (fun W => rspan_own ok a b W)
  have HLB := Lib.hid (betw_len X a b)
  have HSM := Lib.hid (lenA_small ok a b)
  have HSE := Lib.hid (fun W (l : List Int) (x : Int) (h' : RAt W q h (X.repA l c)) => rset_op (w := W) x (d := c) rfl hcw h' (repA_ok ok l hcw).1 (repA_snoc X l x c).symm)
  have zq := hr.lt
  have zh := hr.cells.2.1
  obtain ⟨ch, at_, fa, hi, co, se⟩ := c
  simp only at HSE ⊢
  generalize X.betw a b = L at *
  generalize X.lenA a b = n at *
  clear hr ok hcw
  have HU0 := Lib.hid ((Up.refl w).alloc (.cells #[.int .u8 ch, .bool at_, .int .u8 fa, .int .u8 hi, .int .u8 co, .int .u8 se] 25))
  have HC0 := Lib.hid (show CellAt (w.alloc (.cells #[.int .u8 ch, .bool at_, .int .u8 fa, .int .u8 hi, .int .u8 co, .int .u8 se] 25)) w.heap.size 0 ⟨ch, at_, fa, hi, co, se⟩ from ⟨by simp [go_sem], by simp [go_sem], by simp [go_sem], by simp [go_sem], by simp [go_sem], by simp [go_sem]⟩)
  have k2 := HR.out.h2
  have k3 := HR.out.h3
  go_enter Try.func146, Try.ntmps146
  go_wp2_with fail
  refine (HS.out _).mono ?_
  rintro e w1 ⟨A, c1, rfl, hown, hu1⟩
  have HOW := Lib.hid hown
  have HU1 := Lib.hid (HU0.out.trans hu1)
  have HC1 := Lib.hid (HC0.out.keep (hu1.at_ w.heap.size (by simp)).1)
  have hle := hown.le
  have hc1 : (c1 : Int) ≤ 9223372036854775807 := by have := hown.mx; simp [maxLen] at this; omega
  have z1 := HU1.out.size
  have zc := hu1.size
  simp at zc
  clear hown hu1 k2 k3
  go_wp2_with fail
  go_loopw [21] (fun i wr => ∃ j : Nat, j ≤ n ∧ i = .int .i64 (j : Int) ∧ RAt wr q h (X.repA (L.take j) ⟨ch, at_, fa, hi, co, se⟩) ∧ Keep (two q h) w1 wr) (fun i _ => n - (intOf i).toNat)
  case atStart => exact ⟨0, by omega, rfl, HR.out.up HU1.out, Keep.refl _ _⟩
  case round =>
    obtain ⟨j, hj, rfl, hrj, hkj⟩ := hrel
    have HKJ := Lib.hid hkj
    have HRJ := Lib.hid hrj
    have zj := hkj.size
    clear hrj hkj
    by_cases hlt : j < n
    · have HOJ := Lib.hid (HOW.out.held HKJ.out (fun pp hpp hE => by
        have h1 := (HOW.out.at_ pp hpp).1
        simp at h1
        rcases hE with hE | hE <;> omega))
      obtain ⟨b, off, rfl, zb, hbl, hx⟩ := HOJ.out.elt hlt
      have HC := Lib.hid (HC1.out.keep (HKJ.out.at_ w.heap.size (by omega) (fun e => by rcases e with e | e <;> omega)).1)
      obtain ⟨x0, x1, x2, x3, x4, x5⟩ := HC.out
      simp only [Nat.zero_add] at x0 x1 x2 x3 x4 x5
      have HT := Lib.hid (take_one (l := L) (j := j) (by rw [HLB.out]; exact hlt))
      have hjn : (j : Int) < (n : Int) := by omega
      generalize L.getD j 0 = x at *
      have zw : w.heap.size < wr.heap.size := by omega
      go_wp2_with fail
      refine (HSE.out _ _ x HRJ.out).mono ?_
      rintro e w3 ⟨rfl, hs3, hk3⟩
      have HS3 := Lib.hid hs3
      have HK3 := Lib.hid (HKJ.out.trans hk3)
      clear hs3 hk3
      go_wp2_with fail
      go_roundw
      case rel => exact ⟨j + 1, by omega, by go_num, by rw [HT.out]; exact HS3.out, HK3.out⟩
      case measure => simp [intOf]; omega
    · obtain rfl : j = n := by omega
      have HFIN := Lib.hid (show RAt wr q h (X.repA L ⟨ch, at_, fa, hi, co, se⟩) ∧ Keep (two q h) w wr from ⟨by
        have := HRJ.out
        rwa [List.take_of_length_le (by rw [HLB.out]; omega)] at this, (Keep.of_up HU1.out).trans HKJ.out⟩)
      go_wp2_with fail
      go_ret
      exact ⟨rfl, HFIN.out⟩
set_option maxRecDepth 100000 in
set_option maxHeartbeats 6400000 in
theorem rrange_is {q h : Nat} {X : Spc} {w : World} {a b : Int} (hr : RAt w q h X) (ok : X.Ok) :
    Calls Try.prog 145 #[.pointer (some ⟨q, 0, none⟩), .int .i64 a, .int .i64 b] w fun e w' => e = .returned (.tuple #[]) ∧ RAt w' q h (X.rngA (X.betw a b)) ∧ Keep (two q h) w w' := by
  rw [← rngW_G ok]
  have HR := Lib.hid hr
  have HO := Lib.hid ok
  have HST := Lib.hid (rstarts_is hr ok)
  have HS := Lib.hid (fun W => rspan_own ok a b W)
  have HLB := Lib.hid (betw_len X a b)
  have HBD := Lib.hid (betw_bd ok a b)
  have HX0 := Lib.hid (show chs X (rngW X []) = X by rw [rngW_nil]; exact ch0_is ok)
  have zq := hr.lt
  have zh := hr.cells.2.1
  have hlen := ok.len
  have hsm := ok.small
  have hsl := lenA_small ok a b
  have k2 := hr.h2
  have k3 := hr.h3
  generalize X.betw a b = L at *
  generalize X.lenA a b = n at *
  obtain ⟨m, hm⟩ : ∃ m, X.L.length = m := ⟨_, rfl⟩
  have HM := Lib.hid hm
  rw [hm] at HST hlen hsm
  clear hr ok hm
  go_enter Try.func145, Try.ntmps145
  go_wp2_with fail
  refine HST.out.mono ?_
  rintro e w1 ⟨g, rfl, hg, hints, hu1⟩
  have HI1 := Lib.hid hints
  have HU1 := Lib.hid hu1
  have y2 := ((hu1.at_ q zq).1 2).trans k2
  have y3 := ((hu1.at_ q zq).1 3).trans k3
  have zq1 : q < w1.heap.size := by have := hu1.size; omega
  clear hints hu1 k2 k3
  go_wp2_with fail
  refine (HS.out _).mono ?_
  rintro e w2 ⟨A, c1, rfl, hown, hu2⟩
  have HOW := Lib.hid hown
  have HI2 := Lib.hid (HI1.out.up hu2)
  have HU2 := Lib.hid (HU1.out.trans hu2)
  have hle := hown.le
  have hc1 : (c1 : Int) ≤ 9223372036854775807 := by have := hown.mx; simp [maxLen] at this; omega
  have z1 := HU1.out.size
  have z2 := hu2.size
  clear hown hu2 y2 y3
  go_wp2_with fail
  go_loopw [19] (fun i wr => ∃ j : Nat, j ≤ n ∧ i = .int .i64 (j : Int) ∧ RAt wr q h (chs X (rngW X (L.take j))) ∧ Keep (two q h) w2 wr) (fun i _ => n - (intOf i).toNat)
  case atStart => exact ⟨0, by omega, rfl, by rw [List.take_zero, HX0.out]; exact HR.out.up HU2.out, Keep.refl _ _⟩
  case round =>
    obtain ⟨j, hj, rfl, hrj, hkj⟩ := hrel
    have HKJ := Lib.hid hkj
    have HRJ := Lib.hid hrj
    have zj := hkj.size
    clear hrj hkj
    by_cases hlt : j < n
    · have HOJ := Lib.hid (HOW.out.held HKJ.out (fun pp hpp hE => by
        have h1 := (HOW.out.at_ pp hpp).1
        rcases hE with hE | hE <;> omega))
      obtain ⟨b, off, rfl, zb, hbl, hx⟩ := HOJ.out.elt hlt
      have HT := Lib.hid (take_one (l := L) (j := j) (by rw [HLB.out]; exact hlt))
      have hxb := HBD.out (L.getD j 0) (by rw [List.getD, List.getElem?_eq_getElem (show j < L.length by rw [HLB.out]; exact hlt)]; exact List.getElem_mem _)
      have hjn : (j : Int) < (n : Int) := by omega
      generalize L.getD j 0 = x at *
      obtain ⟨k, rfl⟩ : ∃ k : Nat, x = (k : Int) := ⟨x.toNat, by omega⟩
      have hkm : k < m := by omega
      have hkmi : (k : Int) < (m : Int) := by omega
      have hgw : g < wr.heap.size := by have := HI2.out.2.1; omega
      have hst := ((HKJ.out.at_ g (HI2.out.2.1) (fun e => by rcases e with e | e <;> omega)).1 k).trans (HI2.out.2.2 k _ (starts_at (by rw [HM.out]; exact hkm)))
      have hok := chs_ok HO.out (rngW_b HO.out (L.take j))
      have HPUT := Lib.hid (fun W (h' : RAt W q h (chs X (rngW X (L.take j)))) => rput_is (k : Int) 0 ⟨by omega, by omega⟩ h' hok)
      have hsr := start_range HO.out (k : Int)
      have HWR := Lib.hid (show X.wrB (k : Int) = (decide (X.start (k : Int) < 0) || !fP (X.at_ (X.start (k : Int))).fa) from rfl)
      have HFL := Lib.hid (fun (s : Nat) (hs : s < m) W (h' : RAt W q h (chs X (rngW X (L.take j)))) => rfield_is (k := s) h' hok (by rw [chs_len, HM.out]; exact hs) (f := (X.at_ (s : Int)).fa) (chs_fa X _ _))
      have HYES := Lib.hid (fun (h : X.wrB (k : Int) = true) => show (chs X (rngW X (L.take j))).put (k : Int) 0 = chs X (rngW X (L.take (j + 1))) by rw [HT.out, rngW_yes h hxb.1 hxb.2, chs_put HO.out])
      have HNO := Lib.hid (fun (h : X.wrB (k : Int) = false) => show chs X (rngW X (L.take (j + 1))) = chs X (rngW X (L.take j)) by rw [HT.out, rngW_no h])
      obtain ⟨s, hs⟩ : ∃ s, X.start (k : Int) = s := ⟨_, rfl⟩
      rw [hs] at hst hsr HWR
      clear hs hok hxb hkm
      have fR := fldR0
      rcases hsr with rfl | ⟨s0, s1⟩
      · have hw : X.wrB (k : Int) = true := by rw [HWR.out]; rfl
        have HW := Lib.hid (HYES.out hw)
        clear hw
        go_wp2_with fail
        refine (HPUT.out _ HRJ.out).mono ?_
        rintro e w3 ⟨rfl, hs3, hk3⟩
        have HS3 := Lib.hid hs3
        have HK3 := Lib.hid (HKJ.out.trans hk3)
        clear hs3 hk3
        go_wp2_with fail
        go_roundw
        case rel => exact ⟨j + 1, by omega, by go_num, by rw [← HW.out]; exact HS3.out, HK3.out⟩
        case measure => simp [intOf]; omega
      · obtain ⟨s, rfl⟩ : ∃ t : Nat, s = (t : Int) := ⟨s.toNat, by omega⟩
        have hsm2 : s < m := by omega
        have HF := Lib.hid (HFL.out s hsm2)
        obtain ⟨f, hf⟩ : ∃ f, (X.at_ (s : Int)).fa = f := ⟨_, rfl⟩
        rw [hf] at HF HWR
        have hsneg : ¬ (s : Int) < 0 := by omega
        have HWB := Lib.hid (show X.wrB (k : Int) = !fP f by rw [HWR.out]; simp [hsneg])
        clear hf hsm2
        go_wp2_with fail
        refine (HF.out _ HRJ.out).mono ?_
        rintro e w3 ⟨rfl, hu3⟩
        have HU3 := Lib.hid hu3
        clear hu3
        obtain ⟨bp, hbp⟩ : ∃ bp, fP f = bp := ⟨_, rfl⟩
        rw [hbp] at HWB ⊢
        cases bp
        · have HW := Lib.hid (HYES.out HWB.out)
          go_wp2_with fail
          refine (HPUT.out _ (HRJ.out.up HU3.out)).mono ?_
          rintro e w4 ⟨rfl, hs4, hk4⟩
          have HS4 := Lib.hid hs4
          have HK4 := Lib.hid ((HKJ.out.up HU3.out).trans hk4)
          clear hs4 hk4
          go_wp2_with fail
          go_roundw
          case rel => exact ⟨j + 1, by omega, by go_num, by rw [← HW.out]; exact HS4.out, HK4.out⟩
          case measure => simp [intOf]; omega
        · have HW := Lib.hid (HNO.out HWB.out)
          go_wp2_with fail
          go_roundw
          case rel => exact ⟨j + 1, by omega, by go_num, by rw [HW.out]; exact HRJ.out.up HU3.out, HKJ.out.up HU3.out⟩
          case measure => simp [intOf]; omega
    · obtain rfl : j = n := by omega
      have HFIN := Lib.hid (show RAt wr q h (chs X (rngW X L)) ∧ Keep (two q h) w wr from ⟨by
        have := HRJ.out
        rwa [List.take_of_length_le (by rw [HLB.out]; omega)] at this, (Keep.of_up HU2.out).trans HKJ.out⟩)
      go_wp2_with fail
      go_end0
      exact ⟨rfl, HFIN.out⟩
end Go.Proofs.Ytjokcfenncogkaa
namespace Go.Proofs.Ytjokcfenncogkaa
open Go.RowKit Go.Shelf
set_option linter.unusedVariables false
set_option linter.unusedSimpArgs false

theorem and_tab14 : ∀ k : Fin 256, bits .and .u8 (k.val : Int) 254 = bits .andNot .u8 (k.val : Int) 1 := by decide +kernel
theorem and_not14 {v : Int} (h : isB v) : bits .and .u8 v 254 = bits .andNot .u8 v 1 := by
  have h1 := and_tab14 ⟨v.toNat, by have := h.2; omega⟩
  have h0 : ((v.toNat : Nat) : Int) = v := by have := h.1; omega
  simpa only [h0] using h1
theorem RAt.place {w : World} {p g : Nat} {X : Spc} (h : RAt w p g X) {v : Int} (h0 : 0 ≤ v) (h1 : v < X.r * X.c) : RAt (w.setCell ⟨p, 5, none⟩ (.int .i64 v)) p g (X.place v) := by
  have e : X.place v = { X with cur := v } := by
    unfold Spc.place
    rw [wrap_at h0 h1]
  rw [e]
  exact h.cur v
theorem find_range {X : Spc} (ok : X.Ok) (n s : Int) : X.find n s = -1 ∨ (0 ≤ X.find n s ∧ X.find n s < X.r * X.c) := by
  have hp := Spc.pos ok
  unfold Spc.find
  cases X.far n s with
  | none => exact .inl rfl
  | some d => exact .inr ⟨Int.emod_nonneg _ (by omega), Int.emod_lt_of_pos _ hp⟩
def Spc.refA (X : Spc) : Spc := X.refU.place (max (X.refU.find (-1) 1) 0)
set_option maxRecDepth 100000 in
set_option maxHeartbeats 12800000 in
theorem runp_is {q h : Nat} {X : Spc} {w : World} (hr : RAt w q h X) (ok : X.Ok) :
    Calls Try.prog 144 #[.pointer (some ⟨q, 0, none⟩)] w fun e w' => e = .returned (.tuple #[]) ∧ RAt w' q h X.refA ∧ Keep (two q h) w w' := by
  have HR := Lib.hid hr
  have HO := Lib.hid ok
  have HST := Lib.hid (rstarts_is hr ok)
  have HX0 := Lib.hid (show chs X (rngW X []) = X by rw [rngW_nil]; exact ch0_is ok)
  have zq := hr.lt
  have zh := hr.cells.2.1
  have hlen := ok.len
  have hsm := ok.small
  have HRU := Lib.hid (refU_ok ok)
  have HAL := Lib.hid (show X.attrs.length ≤ X.L.length from those_len (isAt X.L) X.L.length)
  have HMEM := Lib.hid (fun (j : Nat) (a : Int) (ha : X.attrs[j]? = some a) => show ∃ k : Nat, a = k ∧ k < X.L.length from by
    obtain ⟨k, h1, h2, h3⟩ := mem_those.1 (show a ∈ those (isAt X.L) X.L.length from List.mem_of_getElem? ha)
    exact ⟨k, h1, h2⟩)
  obtain ⟨m, hm⟩ : ∃ m, X.L.length = m := ⟨_, rfl⟩
  have HM := Lib.hid hm
  rw [hm] at HST hlen hsm HMEM HAL
  clear hr ok hm
  go_enter Try.func144, Try.ntmps144
  go_wp2_with fail
  refine HST.out.mono ?_
  rintro e w1 ⟨g, rfl, hg, hints, hu1⟩
  have HI1 := Lib.hid hints
  have HU1 := Lib.hid hu1
  have HR1 := Lib.hid (HR.out.up hu1)
  obtain ⟨cap, q1, q2, k4⟩ := HR1.out.h4
  rw [HM.out] at q1 k4
  have hcp : (cap : Int) ≤ 9223372036854775807 := by simp [maxLen] at q2; omega
  have zq1 := HR1.out.lt
  have zw1 := hu1.size
  clear hints hu1
  go_wp2_with fail
  go_loopw [14] (fun i wr => ∃ j : Nat, j ≤ m ∧ i = .int .i64 (j : Int) ∧ RAt wr q h (chs X (rngW X ((ints m).take j))) ∧ Keep (two q h) w1 wr) (fun i _ => m - (intOf i).toNat)
  case atStart => exact ⟨0, by omega, rfl, by rw [List.take_zero, HX0.out]; exact HR1.out, Keep.refl _ _⟩
  case round =>
    obtain ⟨j, hj, rfl, hrj, hkj⟩ := hrel
    have HKJ := Lib.hid hkj
    have HRJ := Lib.hid hrj
    have zj := hkj.size
    clear hrj hkj
    by_cases hlt : j < m
    · have HT := Lib.hid (ints_take hlt)
      have hjn : (j : Int) < (m : Int) := by omega
      have hgw : g < wr.heap.size := by have := HI1.out.2.1; omega
      have hst := ((HKJ.out.at_ g (HI1.out.2.1) (fun e => by rcases e with e | e <;> omega)).1 j).trans (HI1.out.2.2 j _ (starts_at (by rw [HM.out]; exact hlt)))
      have hok := chs_ok HO.out (rngW_b HO.out ((ints m).take j))
      have HPUT := Lib.hid (fun W (h' : RAt W q h (chs X (rngW X ((ints m).take j)))) => rput_is (j : Int) 0 ⟨by omega, by omega⟩ h' hok)
      have hsr := start_range HO.out (j : Int)
      have HWR := Lib.hid (show X.wrB (j : Int) = (decide (X.start (j : Int) < 0) || !fP (X.at_ (X.start (j : Int))).fa) from rfl)
      have HFL := Lib.hid (fun (s : Nat) (hs : s < m) W (h' : RAt W q h (chs X (rngW X ((ints m).take j)))) => rfield_is (k := s) h' hok (by rw [chs_len, HM.out]; exact hs) (f := (X.at_ (s : Int)).fa) (chs_fa X _ _))
      have HYES := Lib.hid (fun (h : X.wrB (j : Int) = true) => show (chs X (rngW X ((ints m).take j))).put (j : Int) 0 = chs X (rngW X ((ints m).take (j + 1))) by rw [HT.out, rngW_yes h (by omega) (by omega), chs_put HO.out])
      have HNO := Lib.hid (fun (h : X.wrB (j : Int) = false) => show chs X (rngW X ((ints m).take (j + 1))) = chs X (rngW X ((ints m).take j)) by rw [HT.out, rngW_no h])
      obtain ⟨s, hs⟩ : ∃ s, X.start (j : Int) = s := ⟨_, rfl⟩
      rw [hs] at hst hsr HWR
      clear hs hok
      have fR := fldR0
      rcases hsr with rfl | ⟨s0, s1⟩
      · have hw : X.wrB (j : Int) = true := by rw [HWR.out]; rfl
        have HW := Lib.hid (HYES.out hw)
        clear hw
        go_wp2_with fail
        refine (HPUT.out _ HRJ.out).mono ?_
        rintro e w3 ⟨rfl, hs3, hk3⟩
        have HS3 := Lib.hid hs3
        have HK3 := Lib.hid (HKJ.out.trans hk3)
        clear hs3 hk3
        go_wp2_with fail
        go_roundw
        case rel => exact ⟨j + 1, by omega, by go_num, by rw [← HW.out]; exact HS3.out, HK3.out⟩
        case measure => simp [intOf]; omega
      · obtain ⟨s, rfl⟩ : ∃ t : Nat, s = (t : Int) := ⟨s.toNat, by omega⟩
        have hsm2 : s < m := by omega
        have HF := Lib.hid (HFL.out s hsm2)
        obtain ⟨f, hf⟩ : ∃ f, (X.at_ (s : Int)).fa = f := ⟨_, rfl⟩
        rw [hf] at HF HWR
        have hsneg : ¬ (s : Int) < 0 := by omega
        have HWB := Lib.hid (show X.wrB (j : Int) = !fP f by rw [HWR.out]; simp [hsneg])
        clear hf hsm2
        go_wp2_with fail
        refine (HF.out _ HRJ.out).mono ?_
        rintro e w3 ⟨rfl, hu3⟩
        have HU3 := Lib.hid hu3
        clear hu3
        obtain ⟨bp, hbp⟩ : ∃ bp, fP f = bp := ⟨_, rfl⟩
        rw [hbp] at HWB ⊢
        cases bp
        · have HW := Lib.hid (HYES.out HWB.out)
          go_wp2_with fail
          refine (HPUT.out _ (HRJ.out.up HU3.out)).mono ?_
          rintro e w4 ⟨rfl, hs4, hk4⟩
          have HS4 := Lib.hid hs4
          have HK4 := Lib.hid ((HKJ.out.up HU3.out).trans hk4)
          clear hs4 hk4
          go_wp2_with fail
          go_roundw
          case rel => exact ⟨j + 1, by omega, by go_num, by rw [← HW.out]; exact HS4.out, HK4.out⟩
          case measure => simp [intOf]; omega
        · have HW := Lib.hid (HNO.out HWB.out)
          go_wp2_with fail
          go_roundw
          case rel => exact ⟨j + 1, by omega, by go_num, by rw [HW.out]; exact HRJ.out.up HU3.out, HKJ.out.up HU3.out⟩
          case measure => simp [intOf]; omega
    · obtain rfl : j = m := by omega
      have HOZ := Lib.hid (show (chs X (rngW X (ints j))).Ok ∧ (chs X (rngW X (ints j))).attrs = X.attrs from ⟨chs_ok HO.out (rngW_b HO.out _), (chs_alk X _).attrs HO.out (chs_ok HO.out (rngW_b HO.out _))⟩)
      have HRZ := Lib.hid (show RAt wr q h (chs X (rngW X (ints j))) from by
        have := HRJ.out
        rwa [List.take_of_length_le (by rw [ints_len]; exact Nat.le_refl _)] at this)
      have HRU2 := Lib.hid (show X.refU = clnL (chs X (rngW X (ints j))) X.attrs from by unfold Spc.refU; rw [HM.out])
      have hzl : (chs X (rngW X (ints j))).L.length = j := by rw [chs_len]; exact HM.out
      have RA := Lib.hid (rattrs_is HRZ.out HOZ.out.1)
      rw [HOZ.out.2] at RA
      generalize chs X (rngW X (ints j)) = Z at *
      obtain ⟨La, hLa⟩ : ∃ La, X.attrs = La := ⟨_, rfl⟩
      rw [hLa] at RA HMEM HAL HRU2
      obtain ⟨nl, hnl⟩ : ∃ nl, La.length = nl := ⟨_, rfl⟩
      have HNL := Lib.hid hnl
      rw [hnl] at HAL
      have hal := HAL.out
      clear hnl hLa HRJ
      go_wp2_with fail
      refine RA.out.mono ?_
      rintro e w4 ⟨A0, c0, rfl, hown0, hu4⟩
      have z4 := hu4.size
      have HU4 := Lib.hid hu4
      have HOW := Lib.hid hown0
      have hc0 : (c0 : Int) ≤ 9223372036854775807 := by have := hown0.mx; simp [maxLen] at this; omega
      have hle0 := hown0.le
      rw [HNL.out] at hle0 HOW ⊢
      clear hown0 hu4
      have fR := fldR0
      go_wp2_with fail
      go_loopw [39] (fun i wz => ∃ t : Nat, t ≤ nl ∧ i = .int .i64 (t : Int) ∧ RAt wz q h (clnL Z (La.take t)) ∧ Keep (two q h) w4 wz) (fun i _ => nl - (intOf i).toNat)
      case atStart => exact ⟨0, by omega, rfl, HRZ.out.up HU4.out, Keep.refl _ _⟩
      case round =>
        obtain ⟨t, ht, rfl, hrj, hkj⟩ := hrel
        have HKT := Lib.hid hkj
        have HRT := Lib.hid hrj
        have zt := hkj.size
        have HOT := Lib.hid (clnL_ok HOZ.out.1 (La.take t))
        clear hrj hkj
        by_cases htl : t < nl
        · obtain ⟨a, ha⟩ : ∃ a, La[t]? = some a := ⟨_, List.getElem?_eq_getElem (by have := HNL.out; omega)⟩
          obtain ⟨k, rfl, hk⟩ := HMEM.out t a ha
          have HOJ := Lib.hid (HOW.out.held HKT.out (fun pp hpp hE => by
            have h1 := (HOW.out.at_ pp hpp).1
            rcases hE with hE | hE <;> omega))
          obtain ⟨b, off, rfl, zb, hbl, hx⟩ := HOJ.out.elt htl
          have hgd : La.getD t 0 = (k : Int) := by rw [List.getD, ha]; rfl
          rw [hgd] at hx
          have hjm : (t : Int) < (nl : Int) := by omega
          have HTK := Lib.hid (show clnL Z (La.take (t + 1)) = clnS (clnL Z (La.take t)) (k : Int) by rw [take_one (by have := HNL.out; omega), hgd, clnL_snoc])
          obtain ⟨Y, hY⟩ : ∃ Y, clnL Z (La.take t) = Y := ⟨_, rfl⟩
          rw [hY] at HRT HOT HTK
          have hyl : Y.L.length = j := by rw [HOT.out.2.len]; exact hzl
          obtain ⟨d, hd⟩ : ∃ d, Y.at_ (k : Int) = d := ⟨_, rfl⟩
          have hat := Spc.at_nat HOT.out.1 (show k < Y.L.length by omega)
          rw [hd] at hat
          have hwf := HOT.out.1.at_wf (k : Int)
          rw [hd] at hwf
          have HEQ := Lib.hid (and_not14 hwf.fa)
          have hcw := Cl.clean_wf hwf
          have HFL := Lib.hid (fun W (h' : RAt W q h Y) => rfield_is (k := k) h' HOT.out.1 (by rw [hyl]; exact hk) (f := d.fa) (by rw [hd]))
          have HSE := Lib.hid (fun W (h' : RAt W q h Y) => rset_op (w := W) (k : Int) (d := d.clean) rfl hcw h' HOT.out.1 (Y := Y.set (k : Int) d.clean) rfl)
          have HCS := Lib.hid (show clnS Y (k : Int) = if fP d.fa = true then Y else Y.set (k : Int) d.clean by unfold clnS; rw [hd])
          clear hY hgd ha hk hcw hwf
          obtain ⟨dch, da, dfa, dhi, dco, dse⟩ := d
          simp only [Cl.clean] at HSE HCS
          simp only at HEQ HFL
          rw [← HEQ.out] at HSE HCS
          go_wp2_with fail
          refine (HFL.out _ HRT.out).mono ?_
          rintro e w5 ⟨rfl, hu5⟩
          have HU5 := Lib.hid hu5
          have HR5 := Lib.hid (HRT.out.up hu5)
          clear hu5
          obtain ⟨bp, hbp⟩ : ∃ bp, fP dfa = bp := ⟨_, rfl⟩
          rw [hbp] at HCS ⊢
          cases bp
          · have HW := Lib.hid (HTK.out.trans HCS.out)
            simp only [Bool.false_eq_true, if_false] at HW
            obtain ⟨x0, x1, x2, x3, x4, x5⟩ := HR5.out.cells.2.2 k _ hat
            simp only at x0 x1 x2 x3 x4 x5
            obtain ⟨cap5, r1, r2, l4⟩ := HR5.out.h4
            rw [hyl] at r1 l4
            have hcp5 : (cap5 : Int) ≤ 9223372036854775807 := by simp [maxLen] at r2; omega
            have zq5 := HR5.out.lt
            have zh5 := HR5.out.cells.2.1
            have hkj : (k : Int) < (j : Int) := by have := (List.getElem?_eq_some_iff.1 hat).1; omega
            clear r2 hat
            go_wp2_with fail
            refine (HSE.out _ (HR5.out.up ((Up.refl _).alloc _))).mono ?_
            rintro e w6 ⟨rfl, hs6, hk6⟩
            have HS6 := Lib.hid hs6
            have HK6 := Lib.hid ((((HKT.out.up HU5.out).up ((Up.refl _).alloc _))).trans hk6)
            clear hs6 hk6
            go_wp2_with fail
            go_roundw
            case rel => exact ⟨t + 1, by omega, by go_num, by rw [HW.out]; exact HS6.out, HK6.out⟩
            case measure => simp [intOf]; omega
          · have HW := Lib.hid (HTK.out.trans HCS.out)
            simp only [if_true] at HW
            clear hat
            go_wp2_with fail
            go_roundw
            case rel => exact ⟨t + 1, by omega, by go_num, by rw [HW.out]; exact HR5.out, HKT.out.up HU5.out⟩
            case measure => simp [intOf]; omega
        · obtain rfl : t = nl := by omega
          have HFZ := Lib.hid (show RAt wr q h X.refU ∧ Keep (two q h) w wr from ⟨by
            rw [HRU2.out]
            have := HRT.out
            rwa [List.take_of_length_le (by have := HNL.out; omega)] at this, (((Keep.of_up HU1.out).trans HKJ.out).up HU4.out).trans HKT.out⟩)
          have HNX := Lib.hid (rnext_f (-1) HFZ.out.1 HRU.out.1)
          have hfr := find_range HRU.out.1 (-1) 1
          have HRA := Lib.hid (show X.refA = X.refU.place (max (X.refU.find (-1) 1) 0) from rfl)
          have HPO := Lib.hid (Spc.pos HRU.out.1)
          obtain ⟨v, hv⟩ : ∃ v, X.refU.find (-1) 1 = v := ⟨_, rfl⟩
          rw [hv] at HNX hfr HRA
          have HMX := Lib.hid (show (if v < 0 then (0 : Int) else v) = max v 0 by split <;> omega)
          have hmx : (if v < 0 then (0 : Int) else v) = max v 0 := HMX.out
          have HMB := Lib.hid (show 0 ≤ max v 0 ∧ max v 0 < X.refU.r * X.refU.c from by
            have := HPO.out
            rcases hfr with rfl | ⟨f0, f1⟩
            · omega
            · rw [Int.max_eq_left f0]; exact ⟨f0, f1⟩)
          generalize max v 0 = u at *
          have zqz := HFZ.out.1.lt
          clear hfr hv
          go_wp2_with fail
          refine HNX.out.mono ?_
          rintro e w8 ⟨rfl, hu8⟩
          have HR8 := Lib.hid (HFZ.out.1.up hu8)
          have HK8 := Lib.hid (HFZ.out.2.up hu8)
          have k5 := HR8.out.h5
          have f5 := HR8.out.free 5
          have zq8 := HR8.out.lt
          clear hu8
          go_wp2_with fail
          go_end0
          exact ⟨rfl, by rw [HRA.out]; exact HR8.out.place HMB.out.1 HMB.out.2, HK8.out.setCell (.inl (.inl rfl)) _⟩
end Go.Proofs.Ytjokcfenncogkaa
namespace Go.Proofs.Ytjokcfenncogkaa
open Go.RowKit Go.Shelf
set_option linter.unusedVariables false
set_option linter.unusedSimpArgs false

/-- the places to the field's end; not formatted: so many -/
def Spc.rstL (X : Spc) (n : Int) (lim : Nat) : List Int :=
  if X.start n < 0 then placesN (n % (X.r * X.c)) (X.r * X.c) lim
  else (X.places (X.start n)).drop ((X.places (X.start n)).idxOf (n % (X.r * X.c)))
theorem drop_take {l : List Int} {i j : Nat} (h : j < l.length) (hi : i ≤ j) : (l.take (j + 1)).drop i = (l.take j).drop i ++ [l.getD j 0] := by
  rw [take_one h, List.drop_append_of_le_length (by simp; omega)]
theorem idx_at {l : List Int} {x : Int} {j : Nat} (h : j < l.length) (hj : j ≤ l.idxOf x) : (l.getD j 0 == x) = decide (l.idxOf x = j) := by
  rw [List.getD, List.getElem?_eq_getElem h]
  show (l[j] == x) = _
  by_cases e : l.idxOf x = j
  · have h1 : l[l.idxOf x]'(by omega) = x := List.getElem_idxOf (by omega)
    simp only [e] at h1
    simp [h1, e]
  · have h2 : (l[j] == x) = false := by
      have := List.not_of_lt_findIdx (p := fun y => y == x) (xs := l) (i := j) (by
        have e2 : List.findIdx (fun y => y == x) l = l.idxOf x := rfl
        omega)
      simpa using this
    rw [h2]
    simp [e]
set_option maxRecDepth 100000 in
set_option maxHeartbeats 12800000 in
theorem rrest_is {q h : Nat} {X : Spc} {w : World} (n : Int) (rd : Bool) (hr : RAt w q h X) (ok : X.Ok) {lim : Nat} (hlim : lim = if rd then X.L.length else X.L.length - X.wrap n) :
    Calls Try.prog 163 #[.pointer (some ⟨q, 0, none⟩), .int .i64 n, .bool rd] w fun e w' => ∃ A c, e = .returned (.slice A (X.rstL n lim).length c) ∧ OwnI w.heap.size w' A (X.rstL n lim).length c (X.rstL n lim) ∧ Up w w' := by
  obtain ⟨i0, hi, hz0, hz1, hz2⟩ := info_parts info_i64
  have HR := Lib.hid hr
  obtain ⟨k, hk⟩ : ∃ k, X.wrap n = k := ⟨_, rfl⟩
  have hw := ok.wrap n
  rw [hk] at hw
  have HW := Lib.hid (rwrap_at n hr ok hk)
  have HSTA := Lib.hid (fun W (h' : RAt W q h X) => rstart_is (k : Int) h' ok)
  have hsk : X.start (k : Int) = X.start n := by rw [← hw.1, start_emod]
  rw [hsk] at HSTA
  have HWR := Lib.hid (fun W (i : Nat) (h' : RAt W q h X) => show Calls Try.prog 34 #[.pointer (some ⟨q, 0, none⟩), .int .i64 ((k + i : Nat) : Int)] W fun e w' => e = .returned (.int .i64 (((k : Int) + (i : Int)) % (X.r * X.c))) ∧ Up W w' from by
    have h1 := rwrap_is ((k + i : Nat) : Int) h' ok
    have h2 := (ok.wrap ((k + i : Nat) : Int)).1
    rw [← h2] at h1
    rw [show (k : Int) + (i : Int) = ((k + i : Nat) : Int) by omega]
    exact h1)
  have hlen := ok.len
  have hsm := ok.small
  have zq := hr.lt
  have zh := hr.cells.2.1
  have hkm := hw.2
  have HPL := Lib.hid (fun W (h' : RAt W q h X) => rplaces_is (X.start n) h' ok)
  have hpl := places_len13 ok (X.start n)
  have hLim : lim ≤ X.L.length := by rw [hlim]; split <;> omega
  have hrst : X.rstL n lim = if X.start n < 0 then placesN (k : Int) (X.r * X.c) lim else (X.places (X.start n)).drop ((X.places (X.start n)).idxOf (k : Int)) := by unfold Spc.rstL; rw [hw.1]
  rw [hk] at hlim
  obtain ⟨m, hm⟩ : ∃ m, X.L.length = m := ⟨_, rfl⟩
  have HM := Lib.hid hm
  rw [hm] at hlen hsm hkm hlim hLim hpl
  obtain ⟨s, hs⟩ : ∃ s, X.start n = s := ⟨_, rfl⟩
  rw [hs] at HSTA HPL hrst hpl
  rw [hrst]
  clear hr ok hk hw hsk hm hs hrst
  by_cases hneg : s < 0
  · rw [if_pos hneg]
    rw [placesN_len]
    go_enter Try.func163, Try.ntmps163
    go_wp2_with fail
    refine HW.out.mono ?_
    rintro e w1 ⟨rfl, hu1⟩
    have HU1 := Lib.hid hu1
    have HR1 := Lib.hid (HR.out.up hu1)
    clear hu1
    go_wp2_with fail
    refine (HSTA.out _ HR1.out).mono ?_
    rintro e w2 ⟨rfl, hu2⟩
    have HU2 := Lib.hid (HU1.out.trans hu2)
    have HR2 := Lib.hid (HR1.out.up hu2)
    clear hu2
    go_wp2_with fail
    go_loopw [8, 9] (fun v i wr => ∃ (j t : Nat) (A : Option Addr) (c : Nat), j ≤ m ∧ i = .int .i64 (j : Int) ∧ t = min j lim ∧ v = .slice A t c ∧ OwnI w2.heap.size wr A t c (placesN (k : Int) (X.r * X.c) t) ∧ Up w2 wr) (fun _ i _ => m - (intOf i).toNat)
    case atStart => exact ⟨0, 0, none, 0, by omega, rfl, by omega, rfl, by simpa [placesN] using OwnI.nil _ _, Up.refl _⟩
    case round =>
      obtain ⟨j, t, A, c, hj, rfl, ht, rfl, hown, huj⟩ := hrel
      have HUJ := Lib.hid huj
      have HOW := Lib.hid hown
      have HRJ := Lib.hid (HR2.out.up huj)
      obtain ⟨cap, q1, q2, k4⟩ := HRJ.out.h4
      rw [HM.out] at q1 k4
      have hcp : (cap : Int) ≤ 9223372036854775807 := by simp [maxLen] at q2; omega
      have zqj := HRJ.out.lt
      have zj := huj.size
      clear hown huj q2
      by_cases hlt : j < m
      · have hjm : (j : Int) < (m : Int) := by omega
        by_cases hjl : j < lim
        · obtain rfl : t = j := by omega
          have HPS := Lib.hid (placesN_succ (k : Int) (X.r * X.c) t)
          have hm1 : t + 1 ≤ maxLen := by simp [maxLen]; omega
          have hkj : rd = true ∨ (k : Int) + (t : Int) < (m : Int) := by
            cases rd
            · right; simp at hlim; omega
            · left; rfl
          have e2 : ((k + t : Nat) : Int) = (k : Int) + (t : Int) := by omega
          have HWT := Lib.hid (fun W (h' : RAt W q h X) => HWR.out W t h')
          rw [e2] at HWT
          clear ht e2
          have HLI := Lib.hid hlim
          have HLL := Lib.hid hLim
          clear hlim
          cases rd
          · have hkt : (k : Int) + (t : Int) < (m : Int) := by
              rcases hkj with h | h
              · cases h
              · exact h
            go_wp2_with fail
            refine (HWT.out _ HRJ.out).mono ?_
            rintro e w3 ⟨rfl, hu3⟩
            have HU3 := Lib.hid (HUJ.out.trans hu3)
            have HO3 := Lib.hid (HOW.out.up hu3)
            have z3 := hu3.size
            clear hu3
            generalize ((k : Int) + (t : Int)) % (X.r * X.c) = x at *
            go_wp2_with (at_builtin; refine wpList_push i0 hi hz0 hz1 hz2 Try.underlying50 rfl (.tmp 42) (.tmp 48) rfl _ x rfl _ (by simp) w2.heap.size A t c (placesN (k : Int) (X.r * X.c) t) rfl rfl (HO3.out.up (by (repeat (first | with_reducible exact Up.refl _ | with_reducible refine Up.alloc ?_ _ | with_reducible refine Up.drew ?_ | with_reducible refine Up.drewN ?_ _ | with_reducible refine Up.setCell ?_ (by (try simp) <;> omega) _ | with_reducible assumption | with_reducible refine Up.trans ?_ (by assumption))))) (by omega) (by (try simp) <;> omega) ?_; intro A2 c2 w4 hown4 hg4 hb4 _; have HO4 := Lib.hid hown4; have HB4 := Lib.hid hb4; clear hown4 hg4 hb4)
            exact ⟨⟨t + 1, t + 1, A2, c2, by omega, by go_num, by have := HLL.out; omega, rfl, by rw [HPS.out]; exact HO4.out, Up.past HU3.out HB4.out⟩, by simp [intOf]; omega⟩
          · go_wp2_with fail
            refine (HWT.out _ HRJ.out).mono ?_
            rintro e w3 ⟨rfl, hu3⟩
            have HU3 := Lib.hid (HUJ.out.trans hu3)
            have HO3 := Lib.hid (HOW.out.up hu3)
            have z3 := hu3.size
            clear hu3
            generalize ((k : Int) + (t : Int)) % (X.r * X.c) = x at *
            go_wp2_with (at_builtin; refine wpList_push i0 hi hz0 hz1 hz2 Try.underlying50 rfl (.tmp 42) (.tmp 48) rfl _ x rfl _ (by simp) w2.heap.size A t c (placesN (k : Int) (X.r * X.c) t) rfl rfl (HO3.out.up (by (repeat (first | with_reducible exact Up.refl _ | with_reducible refine Up.alloc ?_ _ | with_reducible refine Up.drew ?_ | with_reducible refine Up.drewN ?_ _ | with_reducible refine Up.setCell ?_ (by (try simp) <;> omega) _ | with_reducible assumption | with_reducible refine Up.trans ?_ (by assumption))))) (by omega) (by (try simp) <;> omega) ?_; intro A2 c2 w4 hown4 hg4 hb4 _; have HO4 := Lib.hid hown4; have HB4 := Lib.hid hb4; clear hown4 hg4 hb4)
            exact ⟨⟨t + 1, t + 1, A2, c2, by omega, by go_num, by have := HLL.out; omega, rfl, by rw [HPS.out]; exact HO4.out, Up.past HU3.out HB4.out⟩, by simp [intOf]; omega⟩
        · obtain rfl : t = lim := by omega
          cases rd
          · have hkt : ¬ (k : Int) + (j : Int) < (m : Int) := by simp at hlim; omega
            have HLL := Lib.hid hjl
            clear ht hlim hjl
            go_wp2_with fail
            go_roundw
            case rel => exact ⟨j + 1, t, A, c, by omega, by go_num, by have := HLL.out; omega, rfl, HOW.out, HUJ.out⟩
            case measure => simp [intOf]; omega
          · exact absurd hlt (by simp at hlim; omega)
      · obtain rfl : j = m := by omega
        obtain rfl : t = lim := by omega
        clear ht hlim
        go_wp2_with fail
        go_ret
        exact ⟨_, _, rfl, HOW.out.low HU2.out.size, HU2.out.trans HUJ.out⟩
  · rw [if_neg hneg]
    generalize X.places s = P at *
    obtain ⟨nl, hnl⟩ : ∃ nl, P.length = nl := ⟨_, rfl⟩
    have HNL := Lib.hid hnl
    rw [hnl] at hpl HPL
    have hdl : (P.drop (P.idxOf (k : Int))).length = nl - P.idxOf (k : Int) := by simp [hnl]
    rw [hdl]
    have HIX := Lib.hid (fun (j : Nat) (h1 : j < nl) (h2 : j ≤ P.idxOf (k : Int)) => idx_at (l := P) (x := (k : Int)) (j := j) (by rw [hnl]; exact h1) h2)
    have HDT := Lib.hid (fun (j : Nat) (h1 : j < nl) (h2 : P.idxOf (k : Int) ≤ j) => drop_take (l := P) (j := j) (by rw [hnl]; exact h1) h2)
    have hil : P.idxOf (k : Int) ≤ nl := by rw [← hnl]; exact List.idxOf_le_length
    generalize P.idxOf (k : Int) = ix at *
    clear hnl hdl hlim hLim
    go_enter Try.func163, Try.ntmps163
    go_wp2_with fail
    refine HW.out.mono ?_
    rintro e w1 ⟨rfl, hu1⟩
    have HU1 := Lib.hid hu1
    have HR1 := Lib.hid (HR.out.up hu1)
    clear hu1
    go_wp2_with fail
    refine (HSTA.out _ HR1.out).mono ?_
    rintro e w2 ⟨rfl, hu2⟩
    have HU2 := Lib.hid (HU1.out.trans hu2)
    have HR2 := Lib.hid (HR1.out.up hu2)
    clear hu2
    go_wp2_with fail
    refine (HPL.out _ HR2.out).mono ?_
    rintro e w3 ⟨A0, c0, rfl, hown0, hu3⟩
    have HOP := Lib.hid hown0
    have HU3 := Lib.hid (HU2.out.trans hu3)
    have hc0 : (c0 : Int) ≤ 9223372036854775807 := by have := hown0.mx; simp [maxLen] at this; omega
    have hle0 := hown0.le
    have z3 := HU3.out.size
    clear hown0 hu3
    go_wp2_with fail
    go_loopw [8, 10, 55] (fun v f i wr => ∃ (j t : Nat) (A : Option Addr) (c : Nat), j ≤ nl ∧ i = .int .i64 (j : Int) ∧ f = .bool (decide (ix < j)) ∧ t = j - ix ∧ v = .slice A t c ∧ OwnI w3.heap.size wr A t c ((P.take j).drop ix) ∧ Up w3 wr) (fun _ _ i _ => nl - (intOf i).toNat)
    case atStart => exact ⟨0, 0, none, 0, by omega, rfl, by simp, by omega, rfl, by simpa using OwnI.nil _ _, Up.refl _⟩
    case round =>
      obtain ⟨j, t, A, c, hj, rfl, rfl, ht, rfl, hown, huj⟩ := hrel
      have HUJ := Lib.hid huj
      have HOW := Lib.hid hown
      have zj := huj.size
      by_cases hlt : j < nl
      · obtain ⟨b, off, rfl, zb, hbl, hx⟩ := (HOP.out.up huj).elt hlt
        have hjm : (j : Int) < (nl : Int) := by omega
        have HIJ := Lib.hid (HIX.out j hlt)
        have HDJ := Lib.hid (HDT.out j hlt)
        have HTT := Lib.hid ht
        generalize P.getD j 0 = x at *
        clear hown huj ht
        by_cases h1 : ix < j
        · have hd : decide (ix < j) = true := by simp [h1]
          have hd2 : decide (ix < j + 1) = true := by simp; omega
          have hm1 : t ≤ 65535 := by have := HTT.out; omega
          rw [hd]
          clear hd
          go_wp2_with (at_builtin; refine wpList_push i0 hi hz0 hz1 hz2 Try.underlying50 rfl (.tmp 66) (.tmp 68) rfl _ x rfl _ (by simp) w3.heap.size A t c ((P.take j).drop ix) rfl rfl HOW.out hm1 (by (try simp) <;> omega) ?_; intro A2 c2 w4 hown4 hg4 hb4 _; have HO4 := Lib.hid hown4; have HB4 := Lib.hid hb4; clear hown4 hg4 hb4)
          exact ⟨⟨j + 1, t + 1, A2, c2, by omega, by go_num, by rw [hd2], by have := HTT.out; omega, rfl, by rw [HDJ.out (by omega)]; exact HO4.out, Up.past HUJ.out HB4.out⟩, by simp [intOf]; omega⟩
        · have hd : decide (ix < j) = false := by simp [h1]
          rw [hd]
          have hij := HIJ.out (by omega)
          by_cases h2 : ix = j
          · have hd2 : decide (ix < j + 1) = true := by simp; omega
            have hxk : (x == (k : Int)) = true := by rw [hij]; simp [h2]
            have hm1 : t ≤ 65535 := by have := HTT.out; omega
            clear hd hij
            go_wp2_with (at_builtin; refine wpList_push i0 hi hz0 hz1 hz2 Try.underlying50 rfl (.tmp 66) (.tmp 68) rfl _ x rfl _ (by simp) w3.heap.size A t c ((P.take j).drop ix) rfl rfl HOW.out hm1 (by (try simp) <;> omega) ?_; intro A2 c2 w4 hown4 hg4 hb4 _; have HO4 := Lib.hid hown4; have HB4 := Lib.hid hb4; clear hown4 hg4 hb4)
            exact ⟨⟨j + 1, t + 1, A2, c2, by omega, by go_num, by rw [hd2], by have := HTT.out; omega, rfl, by rw [HDJ.out (by omega)]; exact HO4.out, Up.past HUJ.out HB4.out⟩, by simp [intOf]; omega⟩
          · have hd2 : decide (ix < j + 1) = false := by simp; omega
            have hxk : (x == (k : Int)) = false := by rw [hij]; simp [h2]
            have e0 : (P.take (j + 1)).drop ix = (P.take j).drop ix := by
              rw [List.drop_eq_nil_of_le (by simp; omega), List.drop_eq_nil_of_le (by simp; omega)]
            have HE0 := Lib.hid e0
            clear hd hij e0
            go_wp2_with fail
            go_roundw
            case rel => exact ⟨j + 1, t, A, c, by omega, by go_num, by rw [hd2], by have := HTT.out; omega, rfl, by rw [HE0.out]; exact HOW.out, HUJ.out⟩
            case measure => simp [intOf]; omega
      · obtain rfl : j = nl := by omega
        have e1 : P.take j = P := List.take_of_length_le (by rw [HNL.out]; exact Nat.le_refl _)
        rw [e1] at HOW
        obtain rfl : t = j - ix := ht
        clear hown huj e1
        go_wp2_with fail
        go_ret
        exact ⟨_, _, rfl, HOW.out.low (by omega), HU3.out.trans HUJ.out⟩
end Go.Proofs.Ytjokcfenncogkaa
namespace Go.Proofs.Ytjokcfenncogkaa
open Go.RowKit Go.Shelf
set_option linter.unusedVariables false
set_option linter.unusedSimpArgs false

def Spc.cds (X : Spc) (L : List Int) : List Int := L.map fun x => (X.at_ x).ch
theorem cds_len (X : Spc) (L : List Int) : (X.cds L).length = L.length := by simp [Spc.cds]
/-- the codes of j places become those -/
def mvG (X : Spc) (L cs : List Int) : Nat → Nat → Int
  | 0 => X.ch0
  | j + 1 => updG (mvG X L cs j) (X.wrap (L.getD j 0)) (cs.getD j 0)
theorem mvG_b {X : Spc} (ok : X.Ok) {L cs : List Int} (hc : ∀ x ∈ cs, isB x) (j : Nat) : ∀ k, isB (mvG X L cs j k) := by
  induction j with
  | zero => exact ch0_b ok
  | succ j ih =>
    refine updG_b ih _ ?_
    rw [List.getD_eq_getElem?_getD]
    cases hq : cs[j]? with
    | none => exact ⟨by simp, by simp⟩
    | some x => exact hc x (List.mem_of_getElem? hq)
set_option maxRecDepth 100000 in
set_option maxHeartbeats 3200000 in
theorem rcodes_is {q h : Nat} {X : Spc} {w : World} {A : Option Addr} {n c : Nat} {L : List Int} (hr : RAt w q h X) (ok : X.Ok) (hL : OwnI 0 w A n c L) (hb : ∀ x ∈ L, 0 ≤ x ∧ x < X.r * X.c) (hn : n ≤ 65535) :
    Calls Try.prog 165 #[.pointer (some ⟨q, 0, none⟩), .slice A n c] w fun e w' => ∃ A' c', e = .returned (.slice A' n c') ∧ OwnB w.heap.size w' A' n c' (X.cds L) ∧ Up w w' := by
  obtain ⟨i0, hi, hz0, hz1, hz2⟩ := info_parts info_u8
  have HAT := Lib.hid (fun k (hk : k < X.L.length) => Spc.at_nat ok hk)
  have HCE := Lib.hid (fun k c hk => hr.cells.2.2 k c hk)
  have hlen := ok.len
  obtain ⟨cap, q1, q2, k4⟩ := hr.h4
  have zp := hr.lt
  have zg := hr.cells.2.1
  have hsm := ok.small
  have hcp : (cap : Int) ≤ 9223372036854775807 := by simp [maxLen] at q2; omega
  have HLI := Lib.hid hL
  have hle0 := hL.le
  have hcc : (c : Int) ≤ 9223372036854775807 := by have := hL.mx; simp [maxLen] at this; omega
  have HB := Lib.hid hb
  have HLE := Lib.hid hL.len
  obtain ⟨m, hm⟩ : ∃ m, X.L.length = m := ⟨_, rfl⟩
  rw [hm] at q1 k4 hsm HAT hlen
  clear hm hr ok q2 hL hb
  go_enter Try.func165, Try.ntmps165
  go_wp2_with fail
  go_loopw [5, 10] (fun v i wr => ∃ (j : Nat) (A1 : Option Addr) (c1 : Nat), j ≤ n ∧ v = .slice A1 j c1 ∧ i = .int .i64 (j : Int) ∧ OwnB w.heap.size wr A1 j c1 (X.cds (L.take j)) ∧ Up w wr) (fun _ i _ => n - (intOf i).toNat)
  case atStart => exact ⟨0, none, 0, by omega, rfl, rfl, OwnB.nil _ _, Up.refl _⟩
  case round =>
    obtain ⟨j, A1, c1, hj, rfl, rfl, hown, huj⟩ := hrel
    have HUJ := Lib.hid huj
    have HOW := Lib.hid hown
    have zj := huj.size
    by_cases hlt : j < n
    · obtain ⟨b, off, rfl, zb, hbl, hx⟩ := (HLI.out.up huj).elt hlt
      have hxb := HB.out (L.getD j 0) (by rw [List.getD, List.getElem?_eq_getElem (show j < L.length by have := HLE.out; omega)]; exact List.getElem_mem _)
      have HT := Lib.hid (take_one (l := L) (j := j) (by have := HLE.out; omega))
      generalize L.getD j 0 = x at *
      obtain ⟨k, rfl⟩ : ∃ k : Nat, x = (k : Int) := ⟨x.toNat, by omega⟩
      have hk : k < m := by omega
      obtain ⟨d, hd⟩ : ∃ d, X.at_ (k : Int) = d := ⟨_, rfl⟩
      have hat := HAT.out k hk
      rw [hd] at hat
      have x0 := ((huj.at_ h zg).1 _).trans (HCE.out k d hat).h0
      have k6 := ((huj.at_ q zp).1 4).trans k4
      have zq : q < wr.heap.size := by omega
      have zh : h < wr.heap.size := by omega
      have HSJ := Lib.hid (show X.cds (L.take (j + 1)) = X.cds (L.take j) ++ [d.ch] by
        rw [HT.out]
        simp [Spc.cds, hd])
      have hjm : (j : Int) < (n : Int) := by omega
      have hkm : (k : Int) < (m : Int) := by omega
      generalize d.ch = ch at *
      clear hk hown huj hat hd hxb
      go_wp2_with (at_builtin; refine wpList_pushB i0 hi hz0 hz1 hz2 Try.underlying33 rfl (.tmp 14) (.tmp 23) rfl _ ch rfl _ (by simp) w.heap.size A1 j c1 (X.cds (L.take j)) rfl rfl (HOW.out.up (by (repeat (first | with_reducible exact Up.refl _ | with_reducible refine Up.alloc ?_ _ | with_reducible refine Up.drew ?_ | with_reducible refine Up.drewN ?_ _ | with_reducible refine Up.setCell ?_ (by (try simp) <;> omega) _ | with_reducible assumption | with_reducible refine Up.trans ?_ (by assumption))))) (by omega) (by (try simp) <;> omega) ?_; intro A2 c2 w5 hown2 hg2 hbl2 _; have HO2 := Lib.hid hown2; have HB2 := Lib.hid hbl2; clear hown2 hg2 hbl2)
      go_roundw
      case rel => exact ⟨j + 1, A2, c2, by omega, rfl, by go_num, by rw [HSJ.out]; exact HO2.out, Up.past HUJ.out HB2.out⟩
      case measure => simp [intOf]; omega
    · obtain rfl : j = n := by omega
      rw [List.take_of_length_le (by have := HLE.out; omega)] at HOW
      clear hown
      go_wp2_with fail
      go_ret
      exact ⟨A1, c1, rfl, HOW.out, HUJ.out⟩
set_option maxRecDepth 100000 in
set_option maxHeartbeats 3200000 in
theorem rmove_is {q h : Nat} {X : Spc} {w : World} {A Ab : Option Addr} {n c nb cb : Nat} {L cs : List Int} (hr : RAt w q h X) (ok : X.Ok) (hL : Reads w w.heap.size 1 A n (ns L)) (hc : Reads w w.heap.size 1 Ab nb (bs cs)) (hcb : ∀ x ∈ cs, isB x) (hn : n ≤ nb) (hnb : nb ≤ 65535)
    (hA : ∀ p, A = some p → ¬ two q h p.block) (hAb : ∀ p, Ab = some p → ¬ two q h p.block) :
    Calls Try.prog 164 #[.pointer (some ⟨q, 0, none⟩), .slice A n c, .slice Ab nb cb] w fun e w' => e = .returned (.tuple #[]) ∧ RAt w' q h (chs X (mvG X L cs n)) ∧ Keep (two q h) w w' := by
  have HR := Lib.hid hr
  have HO := Lib.hid ok
  have HX0 := Lib.hid (show chs X (mvG X L cs 0) = X from ch0_is ok)
  have HOK := Lib.hid (fun j => chs_ok ok (mvG_b ok (L := L) hcb j))
  have HPUT := Lib.hid (fun W (j : Nat) (h' : RAt W q h (chs X (mvG X L cs j))) => show Calls Try.prog 154 #[.pointer (some ⟨q, 0, none⟩), .int .i64 (L.getD j 0), .int .u8 (cs.getD j 0)] W fun e w' => e = .returned (.tuple #[]) ∧ RAt w' q h (chs X (mvG X L cs (j + 1))) ∧ Keep (two q h) W w' from by
    have := rput_is (L.getD j 0) (cs.getD j 0) (by
      rw [List.getD_eq_getElem?_getD]
      cases hq : cs[j]? with
      | none => exact ⟨by simp, by simp⟩
      | some x => exact hcb x (List.mem_of_getElem? hq)) h' (chs_ok ok (mvG_b ok hcb j))
    rw [chs_put ok] at this
    exact this)
  have HLI := Lib.hid hL
  have HCI := Lib.hid hc
  have HA := Lib.hid hA
  have HAB := Lib.hid hAb
  have hl1 : L.length = n := by simpa [ns] using hL.1
  have hl2 : cs.length = nb := by simpa [bs] using hc.1
  have HL1 := Lib.hid (And.intro hl1 hl2)
  clear hr ok hL hc hcb hA hAb hl1 hl2
  go_enter Try.func164, Try.ntmps164
  go_wp2_with fail
  go_loopw [10] (fun i wr => ∃ j : Nat, j ≤ n ∧ i = .int .i64 (j : Int) ∧ RAt wr q h (chs X (mvG X L cs j)) ∧ Keep (two q h) w wr) (fun i _ => n - (intOf i).toNat)
  case atStart => exact ⟨0, by omega, rfl, by rw [HX0.out]; exact HR.out, Keep.refl _ _⟩
  case round =>
    obtain ⟨j, hj, rfl, hrj, hkj⟩ := hrel
    have HKJ := Lib.hid hkj
    have HRJ := Lib.hid hrj
    have zj := hkj.size
    clear hrj hkj
    by_cases hlt : j < n
    · have hr1 := HLI.out.kept HKJ.out HA.out
      have hr2 := HCI.out.kept HKJ.out HAB.out
      obtain ⟨b1, o1, rfl, zb1⟩ := hr1.form (by omega)
      obtain ⟨b2, o2, rfl, zb2⟩ := hr2.form (by omega)
      obtain ⟨_, u1, hu1, hc1⟩ := hr1.at_ (j := j) (by omega)
      obtain ⟨_, u2, hu2, hc2⟩ := hr2.at_ (j := j) (by omega)
      have e1 : u1 = .int .i64 (L.getD j 0) := by
        unfold ns at hu1
        rw [List.getElem?_map, List.getElem?_eq_getElem (show j < L.length by have := HL1.out.1; omega)] at hu1
        injection hu1 with hu1
        rw [← hu1, List.getD, List.getElem?_eq_getElem (show j < L.length by have := HL1.out.1; omega)]
        rfl
      have e2 : u2 = .int .u8 (cs.getD j 0) := by
        unfold bs at hu2
        rw [List.getElem?_map, List.getElem?_eq_getElem (show j < cs.length by have := HL1.out.2; omega)] at hu2
        injection hu2 with hu2
        rw [← hu2, List.getD, List.getElem?_eq_getElem (show j < cs.length by have := HL1.out.2; omega)]
        rfl
      subst e1 e2
      have HPJ := Lib.hid (HPUT.out wr j HRJ.out)
      have hjn : (j : Int) < (n : Int) := by omega
      have hjb : (j : Int) < (nb : Int) := by omega
      generalize L.getD j 0 = x at *
      generalize cs.getD j 0 = y at *
      clear hr1 hr2 hu1 hu2
      go_wp2_with fail
      refine HPJ.out.mono ?_
      rintro e w3 ⟨rfl, hs3, hk3⟩
      have HS3 := Lib.hid hs3
      have HK3 := Lib.hid (HKJ.out.trans hk3)
      clear hs3 hk3
      go_wp2_with fail
      go_roundw
      case rel => exact ⟨j + 1, by omega, by go_num, HS3.out, HK3.out⟩
      case measure => simp [intOf]; omega
    · obtain rfl : j = n := by omega
      go_wp2_with fail
      go_end0
      exact ⟨rfl, HRJ.out, HKJ.out⟩
end Go.Proofs.Ytjokcfenncogkaa
namespace Go.Proofs.Ytjokcfenncogkaa
open Go.RowKit Go.Shelf
set_option linter.unusedVariables false
set_option linter.unusedSimpArgs false

theorem rstL_rest {X : Spc} (ok : X.Ok) (n : Int) : X.rstL n (X.L.length - X.wrap n) = X.restL n := by
  unfold Spc.rstL Spc.restL
  have h := ok.wrap n
  have hl := ok.len
  rw [show (X.r * X.c - n % (X.r * X.c)).toNat = X.L.length - X.wrap n by omega]
theorem rstL_round {X : Spc} (ok : X.Ok) (n : Int) : X.rstL n X.L.length = X.roundL n := by
  unfold Spc.roundL
  by_cases h : 0 < attrsN X.L
  · rw [if_pos h]
    have hs : ¬ X.start n < 0 := fun h1 => start_neg ok n h1 h
    unfold Spc.rstL Spc.restL
    rw [if_neg hs, if_neg hs]
  · rw [if_neg h]
    unfold Spc.rstL
    rw [if_pos (by rw [start_none ok n h]; omega)]
theorem good_bd {X : Spc} {L : List Int} (h : GoodL X L) : ∀ x ∈ L, 0 ≤ x ∧ x < X.r * X.c := h.bd
set_option maxRecDepth 100000 in
set_option maxHeartbeats 3200000 in
theorem rend_yes {q h : Nat} {X : Spc} {n : Int} {w : World} (hr : RAt w q h X) (ok : X.Ok) (ho : X.open_ n = true) :
    Calls Try.prog 147 #[.pointer (some ⟨q, 0, none⟩), .int .i64 n] w fun e w' => e = .returned (.bool true) ∧ RAt w' q h (X.endA n) ∧ Keep (two q h) w w' := by
  have HR := Lib.hid hr
  have HOK := Lib.hid ok
  have H1 := Lib.hid (ropen_is n hr ok)
  rw [ho] at H1
  have H2 := Lib.hid (fun W (h' : RAt W q h X) => rrest_is n false h' ok (lim := X.L.length - X.wrap n) (by simp))
  rw [rstL_rest ok n] at H2
  have HG := Lib.hid (good_rest ok n)
  have zq := hr.lt
  have zh := hr.cells.2.1
  have HE := Lib.hid (show X.endA n = (chs X (endG X.ch0 (X.restL n))).modify n from rfl)
  obtain ⟨Y, hY⟩ : ∃ Y, X.endA n = Y := ⟨_, rfl⟩
  rw [hY] at HE ⊢
  obtain ⟨L, hL⟩ : ∃ L, X.restL n = L := ⟨_, rfl⟩
  rw [hL] at H2 HG HE
  have HC0 := Lib.hid (ch0_is ok)
  have HP := Lib.hid (fun W j (hj : j < L.length) (h' : RAt W q h (chs X (endG X.ch0 (L.take j)))) => (show Calls _ _ _ W (fun e w' => e = .returned (.tuple #[]) ∧ RAt w' q h (chs X (endG X.ch0 (L.take (j + 1)))) ∧ Keep (two q h) W w') from by
    have := rput_is (L.getD j 0) 0 ⟨by omega, by omega⟩ h' (chs_ok ok (endG_b (ch0_b ok) _))
    rw [chs_put ok, endG_step HG.out X.ch0 hj] at this
    exact this))
  have HM := Lib.hid (fun W (h' : RAt W q h (chs X (endG X.ch0 L))) => rmodify_is n h' (chs_ok ok (endG_b (ch0_b ok) _)))
  obtain ⟨len, hlen⟩ : ∃ len, L.length = len := ⟨_, rfl⟩
  have HLN := Lib.hid hlen
  rw [hlen] at H2
  clear hr ok ho hY hL hlen
  go_enter Try.func147, Try.ntmps147
  go_wp2_with fail
  refine H1.out.mono ?_
  rintro e w1 ⟨rfl, hu1⟩
  have HU1 := Lib.hid hu1
  clear hu1
  go_wp2_with fail
  refine (H2.out _ (HR.out.up HU1.out)).mono ?_
  rintro e w2 ⟨A, c, rfl, hown, hu2⟩
  have HOW := Lib.hid hown
  have HU2 := Lib.hid (HU1.out.trans hu2)
  have hle := hown.le
  have hc : (c : Int) ≤ 9223372036854775807 := by have := hown.mx; simp [maxLen] at this; omega
  have hz1 := HU1.out.size
  have HS0 := Lib.hid (show RAt w2 q h (chs X (endG X.ch0 (L.take 0))) from by
    have e0 : endG X.ch0 (L.take 0) = X.ch0 := by funext k; simp [endG]
    rw [e0, HC0.out]; exact HR.out.up HU2.out)
  clear hown hu2
  go_wp2_with fail
  go_loopw [15] (fun i wr => ∃ j : Nat, j ≤ len ∧ i = .int .i64 (j : Int) ∧ RAt wr q h (chs X (endG X.ch0 (L.take j))) ∧ Keep (two q h) w2 wr) (fun i _ => len - (intOf i).toNat)
  case atStart => exact ⟨0, by omega, rfl, HS0.out, Keep.refl _ _⟩
  case round =>
    obtain ⟨j, hj, rfl, hsj, hkj⟩ := hrel
    have HSJ := Lib.hid hsj
    have HKJ := Lib.hid hkj
    clear hsj hkj
    by_cases hlt : j < len
    · have HOJ := Lib.hid (HOW.out.held HKJ.out (fun pp hpp hE => by
        have h1 := (HOW.out.at_ pp hpp).1
        rcases hE with hE | hE <;> omega))
      obtain ⟨b, off, rfl, zb, hbl, hx⟩ := HOJ.out.elt hlt
      have HPJ := Lib.hid (HP.out wr j (by rw [HLN.out]; omega) HSJ.out)
      have hjn : (j : Int) < (len : Int) := by omega
      generalize L.getD j 0 = x at *
      go_wp2_with fail
      refine HPJ.out.mono ?_
      rintro e w3 ⟨rfl, hs3, hk3⟩
      have HS3 := Lib.hid hs3
      have HK3 := Lib.hid (HKJ.out.trans hk3)
      clear hs3 hk3
      go_wp2_with fail
      go_roundw
      case rel => exact ⟨j + 1, by omega, by go_num, HS3.out, HK3.out⟩
      case measure => simp [intOf]; omega
    · obtain rfl : j = len := by omega
      have HSE := Lib.hid (show RAt wr q h (chs X (endG X.ch0 L)) from by
        have h1 := HSJ.out
        rw [List.take_of_length_le (by rw [HLN.out]; omega)] at h1
        exact h1)
      go_wp2_with fail
      refine (HM.out _ HSE.out).mono ?_
      rintro e w3 ⟨rfl, hs3, hk3⟩
      have HS3 := Lib.hid hs3
      have HK3 := Lib.hid (((Keep.of_up HU2.out).trans HKJ.out).trans hk3)
      clear hs3 hk3
      go_wp2_with fail
      go_ret
      exact ⟨rfl, by rw [HE.out]; exact HS3.out, HK3.out⟩
theorem rend_no {q h : Nat} {X : Spc} {n : Int} {w : World} (hr : RAt w q h X) (ok : X.Ok) (ho : X.open_ n = false) :
    Calls Try.prog 147 #[.pointer (some ⟨q, 0, none⟩), .int .i64 n] w fun e w' => e = .returned (.bool false) ∧ Up w w' := by
  have H1 := Lib.hid (ropen_is n hr ok)
  rw [ho] at H1
  clear hr ok ho
  go_enter Try.func147, Try.ntmps147
  go_wp2_with fail
  refine H1.out.mono ?_
  rintro e w1 ⟨rfl, hu1⟩
  go_wp2_with fail
  go_ret
  exact ⟨rfl, hu1⟩
end Go.Proofs.Ytjokcfenncogkaa
namespace Go.Proofs.Ytjokcfenncogkaa
open Go.RowKit Go.Shelf
set_option linter.unusedVariables false
set_option linter.unusedSimpArgs false

/-- a nought behind a slice that may have room -/
theorem wpList_zero {P : Program} {w : World} {ops : Array Oper} {rest : List Oper} {o : Oper} {a : Act} {Q : Exit → Act → World → Prop} (i0 : TypeInfo) (hi : P.info? 5 = some i0) (hz0 : i0.zero = some (.int .u8 0)) (hz1 : i0.size = 1) (hz2 : i0.bytes = 1) (hP : P.underlying 33 = some (.slice 5))
    (hgd : o.guard = none) (s x : Operand) (ho : o.op = .call { callee := .builtin .append, args := #[s, x], argTypes := #[33, 33] })
    (g off n c gx : Nat) (l : List Int) (hs : a.eval s = .slice (some ⟨g, off, none⟩) n c) (hl : l.length = n) (hr : ∀ j u, (bs l)[j]? = some u → w.cell? ⟨g, off + j, none⟩ = some u) (hx : a.eval x = .slice (some ⟨gx, 0, none⟩) 1 1) (hc : w.cell? ⟨gx, 0, none⟩ = some (.int .u8 0))
    (hsp : n + 1 ≤ c → (w.cell? ⟨g, off + n, none⟩).isSome = true ∧ w.frozen? ⟨g, off + n, none⟩ = false) (hn : n ≤ 65535) (hcm : c ≤ maxLen) (hg : g < w.heap.size)
    (h : ∀ Ab cb w', Reads w' w'.heap.size 1 Ab (n + 1) (bs (l ++ [0])) → Keep (fun k => k = g) w w' → (∀ p, Ab = some p → p.block = g ∨ w.heap.size ≤ p.block) → n + 1 ≤ cb → cb ≤ maxLen → wpList P ops Q rest (a.put o.dst (.slice Ab (n + 1) cb)) w') : wpList P ops Q (o :: rest) a w := by
  refine wpList_append_arg w hgd s x 33 ho 5 i0 (.int .u8 0) 1 1 hP hi hz0 hz1 hz2 rfl (by omega) g off n c (bs l) hs (by simp [bs, hl]) hr ⟨gx, 0, none⟩ 1 1 [.int .u8 0] hx rfl (fun j u hu => ?_) (by simp [Value.oneCell']) (fun hroom j hj => ?_) (by simp [maxLen]; omega) (by omega) (fun hroom => ?_) (fun hgrow v' w' ho' hg' => ?_)
  · match j, hu with
    | 0, hu => cases hu; simpa [Addr.add] using hc
  · obtain rfl : j = 0 := by simpa using hj
    simpa using hsp hroom
  · have hk : Keep (fun k => k = g) w (w.setCells g (off + n * 1) [.int .u8 0]) := (Keep.refl (fun k => k = g) w).setCell (p := ⟨g, off + n * 1, none⟩) (.inl rfl) _
    refine h _ _ _ ⟨by simp [bs, hl], fun _ => ⟨g, off, rfl, by have := hk.size; omega, fun j u hu => ?_⟩⟩ hk (fun p hp => by injection hp with hp; subst hp; exact .inl rfl) hroom hcm
    have hlb : (bs l).length = n := by simp [bs, hl]
    by_cases hj : j < n
    · rw [show bs (l ++ [0]) = bs l ++ [.int .u8 0] by simp [bs], List.getElem?_append_left (by omega)] at hu
      show (w.setCell ⟨g, off + n * 1, none⟩ (.int .u8 0)).cell? ⟨g, off + j, none⟩ = _
      rw [World.cell?_setCell_other (h := by intro e; injection e with _ e; omega)]
      exact hr j u hu
    · rw [show bs (l ++ [0]) = bs l ++ [.int .u8 0] by simp [bs], List.getElem?_append_right (by omega)] at hu
      have hj0 : j - (bs l).length = 0 := by
        have := (List.getElem?_eq_some_iff.1 hu).1
        simp at this
        omega
      rw [hj0] at hu
      cases hu
      obtain rfl : j = n := by omega
      show (w.setCell ⟨g, off + j * 1, none⟩ (.int .u8 0)).cell? ⟨g, off + j, none⟩ = _
      rw [Nat.mul_one]
      have hsm := (hsp hroom).1
      obtain ⟨u, hu⟩ := Option.isSome_iff_exists.1 hsm
      exact World.cell?_setCell_same (h := hu) ..
  · obtain ⟨Ab, cb, rfl, h1, h2⟩ := own_form ho'
    have hu : Up w w' := (Up.refl w).grown hg' (fun g h => by cases h)
    rw [show bs l ++ [Value.int .u8 0] = bs (l ++ [0]) by simp [bs]] at ho'
    exact h Ab cb w' (Reads.of_own ho') (Keep.of_up hu) (fun p hp => by subst hp; exact .inr (own_bd ho' p.block rfl).1) h1 h2
theorem own_spare {w : World} {B n c : Nat} {e : TypeId} {g : Nat} {xs : List Value} (h : w.ownsRow B e 1 (.slice (some ⟨g, 0, none⟩) n c) n xs) {o : Nat} (ho : o < c) : (w.cell? ⟨g, o, none⟩).isSome = true ∧ w.frozen? ⟨g, o, none⟩ = false := by
  rcases h.2 with ⟨e1, _⟩ | ⟨g', cap, cur, e1, h6, h7, h8, h9, h10, _⟩
  · cases e1
  · injection e1 with e1 _ e2
    injection e1 with e1
    injection e1 with e1
    subst e1 e2
    refine ⟨?_, ?_⟩
    · simp only [World.cell?, h7]
      simp
      omega
    · simp only [World.frozen?, h7]
      simp
theorem mv_del {X : Spc} {L : List Int} (hg : GoodL X L) (j : Nat) (hj : j ≤ L.length) : mvG X L ((X.cds L).drop 1 ++ [0]) j = delG X.ch0 L j := by
  induction j with
  | zero => exact (delG_zero _ _).symm
  | succ j ih =>
    show updG (mvG X L _ j) _ _ = _
    rw [ih (by omega)]
    refine delG_step hg X.ch0 (by omega) ?_
    have hl : (X.cds L).length = L.length := cds_len X L
    by_cases h1 : j + 1 < L.length
    · rw [if_pos h1, List.getD_eq_getElem?_getD, List.getElem?_append_left (by simp [hl]; omega), List.getElem?_drop]
      unfold Spc.cds
      rw [List.getElem?_map, show 1 + j = j + 1 by omega, List.getElem?_eq_getElem h1, List.getD, List.getElem?_eq_getElem h1]
      simp only [Option.map_some, Option.getD_some]
      have hb := hg.bd (L[j + 1]) (List.getElem_mem _)
      unfold Spc.ch0
      rw [show ((L[j + 1].toNat : Nat) : Int) = L[j + 1] by omega]
    · rw [if_neg h1, List.getD_eq_getElem?_getD, List.getElem?_append_right (by simp [hl]; omega)]
      have : j - ((X.cds L).drop 1).length = 0 := by simp [hl]; omega
      rw [this]
      rfl
set_option maxRecDepth 100000 in
set_option maxHeartbeats 3200000 in
theorem rdel_yes {q h : Nat} {X : Spc} {n : Int} {w : World} (hr : RAt w q h X) (ok : X.Ok) (ho : X.open_ n = true) (hpos : 0 < (X.row n).length) (hsm : (X.row n).length ≤ 65535) :
    Calls Try.prog 148 #[.pointer (some ⟨q, 0, none⟩), .int .i64 n] w fun e w' => e = .returned (.bool true) ∧ RAt w' q h (X.delA n) ∧ Keep (two q h) w w' := by
  obtain ⟨i0, hi, hz0, hz1, hz2⟩ := info_parts info_u8
  have HR := Lib.hid hr
  have HOK := Lib.hid ok
  have H1 := Lib.hid (ropen_is n hr ok)
  rw [ho] at H1
  have H2 := Lib.hid (fun W (h' : RAt W q h X) => rrow_is n h' ok)
  have HG := Lib.hid (good_row ok n)
  have zq := hr.lt
  have zh := hr.cells.2.1
  have HE := Lib.hid (show X.delA n = (chs X (delG X.ch0 (X.row n) (X.row n).length)).modify n from rfl)
  obtain ⟨Y, hY⟩ : ∃ Y, X.delA n = Y := ⟨_, rfl⟩
  rw [hY] at HE ⊢
  obtain ⟨L, hL⟩ : ∃ L, X.row n = L := ⟨_, rfl⟩
  rw [hL] at H2 HG HE hpos hsm
  have HMV := Lib.hid (mv_del HG.out L.length (Nat.le_refl _))
  have HCB := Lib.hid (show ∀ x ∈ (X.cds L).drop 1 ++ [0], isB x from fun x hx => by
    rcases List.mem_append.1 hx with hx | hx
    · obtain ⟨y, hy, rfl⟩ := List.mem_map.1 (List.mem_of_mem_drop hx)
      exact (ok.at_wf y).ch
    · rw [List.mem_singleton.1 hx]; exact ⟨by omega, by omega⟩)
  have HM := Lib.hid (fun W (h' : RAt W q h (chs X (delG X.ch0 L L.length))) => rmodify_is n h' (chs_ok ok (delG_b (ch0_b ok) _ _)))
  have HCD := Lib.hid (cds_len X L)
  obtain ⟨len, hlen⟩ : ∃ len, L.length = len := ⟨_, rfl⟩
  have HLN := Lib.hid hlen
  rw [hlen] at H2 hpos hsm HCD HMV
  clear hr ok ho hY hL hlen
  go_enter Try.func148, Try.ntmps148
  go_wp2_with fail
  refine H1.out.mono ?_
  rintro e w1 ⟨rfl, hu1⟩
  have HU1 := Lib.hid hu1
  clear hu1
  go_wp2_with fail
  refine (H2.out _ (HR.out.up HU1.out)).mono ?_
  rintro e w2 ⟨A, c, rfl, hown, hu2⟩
  have HOW := Lib.hid hown
  have HU2 := Lib.hid (HU1.out.trans hu2)
  have hz1' := HU1.out.size
  clear hown hu2
  go_wp2_with fail
  refine (rcodes_is (HR.out.up HU2.out) HOK.out (HOW.out.low (Nat.zero_le _)) HG.out.bd hsm).mono ?_
  rintro e w3 ⟨A3, c3, rfl, hown3, hu3⟩
  have HO3 := Lib.hid hown3
  have HU3 := Lib.hid (HU2.out.trans hu3)
  have HL3 := Lib.hid (HOW.out.up hu3)
  obtain ⟨g, off, rfl, zg⟩ := hown3.reads.form hpos
  have hz2' := HU2.out.size
  have hg2 := (hown3.at_ _ rfl).1
  simp only at hg2
  have hle3 := hown3.le
  have hmx3 := hown3.mx
  obtain rfl : off = 0 := by
    rcases hown3.own.2 with ⟨e1, _⟩ | ⟨g', cap, cur, e1, _⟩
    · cases e1
    · injection e1 with e1 _ _
      injection e1 with e1
      injection e1
  have HSP := Lib.hid (fun o (ho : o < c3) => own_spare hown3.own ho)
  have hcl : ∀ j, j < len → w3.cell? ⟨g, j, none⟩ = some (.int .u8 ((X.cds L).getD j 0)) := fun j hj => by
    obtain ⟨_, u, hu, hc⟩ := hown3.reads.at_ (j := j) (by omega)
    rw [Nat.zero_add] at hc
    rw [hc]
    unfold bs at hu
    rw [List.getElem?_map, List.getElem?_eq_getElem (show j < (X.cds L).length by have := HCD.out; omega)] at hu
    injection hu with hu
    rw [← hu, List.getD, List.getElem?_eq_getElem (show j < (X.cds L).length by have := HCD.out; omega)]
    rfl
  have HCL := Lib.hid hcl
  clear hown3 hu3 hcl
  have h1len : (1 : Int) ≤ (len : Int) := by omega
  have hc3 : (1 : Int) ≤ (c3 : Int) := by omega
  have hc63 : (c3 : Int) ≤ 9223372036854775807 := by simp [maxLen] at hmx3; omega
  by_cases hc1 : c3 = 1
  · subst hc1
    obtain rfl : len = 1 := by omega
    have HDL := Lib.hid (show ((X.cds L).drop 1).length = 0 by simp [HCD.out])
    have e0 : (X.cds L).drop 1 = [] := List.eq_nil_of_length_eq_zero HDL.out
    have HDR := Lib.hid (show ∀ j u, (bs ((X.cds L).drop 1))[j]? = some u → (w3.alloc (.cells #[.int .u8 0] 5)).cell? ⟨g, 0 + j, none⟩ = some u from fun j u hu => by rw [e0] at hu; simp [bs] at hu)
    have HDS := Lib.hid (show 0 + 1 ≤ 0 → ((w3.alloc (.cells #[.int .u8 0] 5)).cell? ⟨g, 0 + 0, none⟩).isSome = true ∧ (w3.alloc (.cells #[.int .u8 0] 5)).frozen? ⟨g, 0 + 0, none⟩ = false from fun h => by omega)
    clear e0
    go_wp2_with (at_builtin; refine wpList_zero i0 hi hz0 hz1 hz2 Try.underlying33 rfl (.tmp 18) (.tmp 19) rfl g 0 0 0 w3.heap.size ((X.cds L).drop 1) rfl HDL.out HDR.out rfl (by simp [go_sem]) HDS.out (by omega) (by omega) (by simp; omega) ?_; intro Ab cb w4 hrd hk4 hblk hcb1 hcb2)
    have hcb63 : (cb : Int) ≤ 9223372036854775807 := by simp [maxLen] at hcb2; omega
    have HR4 := Lib.hid ((HR.out.up (HU3.out.alloc (.cells #[.int .u8 0] 5))).held hk4 (by omega) (by omega))
    have HL4 := Lib.hid (((HL3.out.up ((Up.refl w3).alloc (.cells #[.int .u8 0] 5))).held hk4 (fun pp hpp e => by have := (HOW.out.at_ pp hpp).2; omega)).reads)
    have HA4 := Lib.hid (show ∀ pp, A = some pp → ¬ two q h pp.block from fun pp hpp e => by
      have h1 := (HOW.out.at_ pp hpp).1
      rcases e with e | e <;> omega)
    have HB4 := Lib.hid (show ∀ pp, Ab = some pp → ¬ two q h pp.block from fun pp hpp e => by
      have h1 := hblk pp hpp
      simp at h1
      rcases h1 with h1 | h1 <;> (rcases e with e | e <;> omega))
    have HRD := Lib.hid hrd
    have HU4 := Lib.hid (show Keep (two q h) w w4 from Keep.of_up ((HU3.out.alloc (.cells #[.int .u8 0] 5)).keep hk4 (fun k e => by subst e; omega)))
    clear hrd hk4 hblk
    go_wp2_with fail
    refine (rmove_is HR4.out HOK.out HL4.out HRD.out HCB.out (by omega) (by omega) HA4.out HB4.out).mono ?_
    rintro e w5 ⟨rfl, hr5, hk5⟩
    rw [HMV.out] at hr5
    rw [← HLN.out] at hr5
    have HR5 := Lib.hid hr5
    have HK5 := Lib.hid (HU4.out.trans hk5)
    clear hr5 hk5
    go_wp2_with fail
    refine (HM.out _ HR5.out).mono ?_
    rintro e w6 ⟨rfl, hs6, hk6⟩
    have HS6 := Lib.hid hs6
    have HK6 := Lib.hid (HK5.out.trans hk6)
    clear hs6 hk6
    go_wp2_with fail
    go_ret
    exact ⟨rfl, by rw [HE.out]; exact HS6.out, HK6.out⟩
  · have hc2 : (1 : Int) < (c3 : Int) := by omega
    have HDL := Lib.hid (show ((X.cds L).drop 1).length = len - 1 by simp [HCD.out])
    have hal := ((Up.refl w3).alloc (.cells #[.int .u8 0] 5)).at_ g zg
    have HDR := Lib.hid (show ∀ j u, (bs ((X.cds L).drop 1))[j]? = some u → (w3.alloc (.cells #[.int .u8 0] 5)).cell? ⟨g, 1 + j, none⟩ = some u from fun j u hu => by
      unfold bs at hu
      rw [List.getElem?_map, List.getElem?_drop] at hu
      have hj : 1 + j < (X.cds L).length := by
        rcases Nat.lt_or_ge (1 + j) (X.cds L).length with h | h
        · exact h
        · rw [List.getElem?_eq_none h] at hu; cases hu
      rw [hal.1, HCL.out _ (by have := HCD.out; omega), List.getD, List.getElem?_eq_getElem hj]
      rw [List.getElem?_eq_getElem hj] at hu
      exact hu)
    have HDS := Lib.hid (show len - 1 + 1 ≤ c3 - 1 → ((w3.alloc (.cells #[.int .u8 0] 5)).cell? ⟨g, 1 + (len - 1), none⟩).isSome = true ∧ (w3.alloc (.cells #[.int .u8 0] 5)).frozen? ⟨g, 1 + (len - 1), none⟩ = false from fun h => by
      rw [hal.1, hal.2]
      exact HSP.out _ (by omega))
    clear hal
    go_wp2_with (at_builtin; refine wpList_zero i0 hi hz0 hz1 hz2 Try.underlying33 rfl (.tmp 18) (.tmp 19) rfl g 1 (len - 1) (c3 - 1) w3.heap.size ((X.cds L).drop 1) rfl HDL.out HDR.out rfl (by simp [go_sem]) HDS.out (by omega) (by omega) (by simp; omega) ?_; intro Ab cb w4 hrd hk4 hblk hcb1 hcb2)
    have hcb63 : (cb : Int) ≤ 9223372036854775807 := by simp [maxLen] at hcb2; omega
    have hlp : len - 1 + 1 = len := by omega
    rw [hlp] at hrd hcb1 ⊢
    have HR4 := Lib.hid ((HR.out.up (HU3.out.alloc (.cells #[.int .u8 0] 5))).held hk4 (by omega) (by omega))
    have HL4 := Lib.hid (((HL3.out.up ((Up.refl w3).alloc (.cells #[.int .u8 0] 5))).held hk4 (fun pp hpp e => by have := (HOW.out.at_ pp hpp).2; omega)).reads)
    have HA4 := Lib.hid (show ∀ pp, A = some pp → ¬ two q h pp.block from fun pp hpp e => by
      have h1 := (HOW.out.at_ pp hpp).1
      rcases e with e | e <;> omega)
    have HB4 := Lib.hid (show ∀ pp, Ab = some pp → ¬ two q h pp.block from fun pp hpp e => by
      have h1 := hblk pp hpp
      simp at h1
      rcases h1 with h1 | h1 <;> (rcases e with e | e <;> omega))
    have HRD := Lib.hid hrd
    have HU4 := Lib.hid (show Keep (two q h) w w4 from Keep.of_up ((HU3.out.alloc (.cells #[.int .u8 0] 5)).keep hk4 (fun k e => by subst e; omega)))
    clear hrd hk4 hblk
    go_wp2_with fail
    refine (rmove_is HR4.out HOK.out HL4.out HRD.out HCB.out (by omega) (by omega) HA4.out HB4.out).mono ?_
    rintro e w5 ⟨rfl, hr5, hk5⟩
    rw [HMV.out] at hr5
    rw [← HLN.out] at hr5
    have HR5 := Lib.hid hr5
    have HK5 := Lib.hid (HU4.out.trans hk5)
    clear hr5 hk5
    go_wp2_with fail
    refine (HM.out _ HR5.out).mono ?_
    rintro e w6 ⟨rfl, hs6, hk6⟩
    have HS6 := Lib.hid hs6
    have HK6 := Lib.hid (HK5.out.trans hk6)
    clear hs6 hk6
    go_wp2_with fail
    go_ret
    exact ⟨rfl, by rw [HE.out]; exact HS6.out, HK6.out⟩
end Go.Proofs.Ytjokcfenncogkaa
namespace Go.Proofs.Ytjokcfenncogkaa
open Go.RowKit Go.Shelf
set_option linter.unusedVariables false
set_option linter.unusedSimpArgs false

theorem step_app14 {P : Program} {ops : Array Oper} {o : Oper} {a : Act} {w : World} {K : Act → World → Prop} {Q : Exit → Act → World → Prop} {E : Prop} (hgd : o.guard = none) (s x : Operand) (t : TypeId)
    (ho : o.op = .call { callee := .builtin .append, args := #[s, x], argTypes := #[t, t] })
    (base : Nat) (e : TypeId) (i : TypeInfo) (z : Value) (size bytes : Nat) (ht : P.underlying t = some (.slice e)) (hi : P.info? e = some i) (hz : i.zero = some z)
    (hsize : i.size = size) (hby : i.bytes = bytes) (hzs : z.cells.size = size) (hsz : 0 < size)
    (A : Option Addr) (n c : Nat) (xs : List Value) (hs : a.eval s = .slice A n c) (hown : w.ownsRow base e size (.slice A n c) n xs)
    (B : Nat) (Ax : Option Addr) (m cx : Nat) (news : List Value) (hx : a.eval x = .slice Ax m cx) (hr : Reads w B size Ax m news) (h1 : ∀ u ∈ news, u.oneCell' = true)
    (h63 : n + m ≤ maxLen) (hbytes : (n + m) * bytes ≤ 140737488355328) (hbase : base ≤ w.heap.size)
    (h : ∀ A' c' w', w'.ownsRow base e size (.slice A' (n + m) c') (n + m) (xs ++ news) → w.grownBy w' (Value.slice A n c).ownBlock → n + m ≤ c' → c' ≤ maxLen → Below base w w' →
      K (a.put o.dst (.slice A' (n + m) c')) w') : if Region.wanted o (yielded ops a.tmps) = true then Oper.wp P o a w K Q else E := by
  have hw : Region.wanted o (yielded ops a.tmps) = true := by simp [Region.wanted, hgd]
  rw [if_pos hw]
  obtain ⟨A', c', w', hr', h2, h3, h4, h5, h6⟩ := run_app (P := P) w base t o.type e i z size bytes ht hi hz hsize hby hzs hsz A n c xs hown B Ax m cx news hr h1 h63 hbytes hbase
  unfold Oper.wp execOp
  simp only [ho, resolve, invoke, builtin, Sem.run_bind, Sem.run_pure, Result.andThen_ok, List.map_toArray, List.map_cons, List.map_nil, hs, hx, hr']
  exact h A' c' w' h2 h3 h4 h5 h6
theorem mvG_at {X : Spc} {L cs : List Int} (hb : ∀ x ∈ L, 0 ≤ x ∧ x < X.r * X.c) (nd : ∀ i j, i < j → j < L.length → L.getD i 0 ≠ L.getD j 0) (k : Nat) : ∀ j, j ≤ L.length → (∀ i, i < j → L.getD i 0 = (k : Int) → mvG X L cs j k = cs.getD i 0) ∧ ((∀ i, i < j → L.getD i 0 ≠ (k : Int)) → mvG X L cs j k = X.ch0 k)
  | 0, _ => ⟨fun i h => by omega, fun _ => rfl⟩
  | j + 1, hj => by
    obtain ⟨h1, h2⟩ := mvG_at hb nd k j (by omega)
    have hx := hb (L.getD j 0) (by rw [List.getD, List.getElem?_eq_getElem (show j < L.length by omega)]; exact List.getElem_mem _)
    have hw := wrap_at hx.1 hx.2
    have e : mvG X L cs (j + 1) k = if k = X.wrap (L.getD j 0) then cs.getD j 0 else mvG X L cs j k := rfl
    rw [e]
    by_cases hk : k = X.wrap (L.getD j 0)
    · rw [if_pos hk]
      have hkj : L.getD j 0 = (k : Int) := by rw [hk, hw]
      refine ⟨fun i hi he => ?_, fun hn => absurd hkj (hn j (by omega))⟩
      by_cases hij : i = j
      · rw [hij]
      · exact absurd (he.trans hkj.symm) (nd i j (by omega) (by omega))
    · rw [if_neg hk]
      have hkj : L.getD j 0 ≠ (k : Int) := fun he => hk (by omega)
      refine ⟨fun i hi he => ?_, fun hn => h2 (fun i hi => hn i (by omega))⟩
      by_cases hij : i = j
      · rw [hij] at he; exact absurd he hkj
      · exact h1 i (by omega) he
theorem getD_take {L : List Int} {i n : Nat} (h : i < n) : (L.take n).getD i 0 = L.getD i 0 := by
  rw [List.getD, List.getD, List.getElem?_take_of_lt h]
theorem mv_ins {X : Spc} (ok : X.Ok) {L : List Int} (hg : GoodL X L) {x : Int} {e : Nat} (he : e < L.length) : chs X (mvG X (L.take (e + 1)) (x :: (X.cds L).take e) (e + 1)) = insL X L x e := by
  unfold insL
  refine chs_ext ok fun k hk hA => ?_
  have hl : (X.cds L).length = L.length := cds_len X L
  obtain ⟨m1, m2⟩ := mvG_at (X := X) (L := L.take (e + 1)) (cs := x :: (X.cds L).take e) (fun y hy => hg.bd y (List.mem_of_mem_take hy)) (fun i j hij hj => by
    simp at hj
    rw [getD_take (by omega), getD_take (by omega)]
    exact hg.nd i j hij (by omega)) k (e + 1) (by simp; omega)
  have h0 := hg.bd (L.getD 0 0) (by rw [List.getD, List.getElem?_eq_getElem (show 0 < L.length by omega)]; exact List.getElem_mem _)
  have hw := wrap_at h0.1 h0.2
  by_cases hin : L.idxOf (k : Int) ≤ e
  · have hlt : L.idxOf (k : Int) < L.length := by omega
    have hgi := getD_idxOf hlt
    rw [m1 (L.idxOf (k : Int)) (by omega) (by rw [getD_take (by omega)]; exact hgi)]
    unfold updG
    by_cases hz : L.idxOf (k : Int) = 0
    · rw [hz] at hgi
      rw [if_pos (by omega), hz]
      rfl
    · have hne : ¬ k = X.wrap (L.getD 0 0) := fun e1 => by
        have : L.getD 0 0 = L.getD (L.idxOf (k : Int)) 0 := by rw [hgi]; omega
        exact hg.nd 0 _ (by omega) hlt this
      rw [if_neg hne]
      unfold insG
      rw [if_pos ⟨by omega, hin⟩]
      obtain ⟨i, hi⟩ : ∃ i, L.idxOf (k : Int) = i + 1 := ⟨L.idxOf (k : Int) - 1, by omega⟩
      rw [hi, Nat.add_sub_cancel]
      rw [List.getD_cons_succ, getD_take (by omega)]
      unfold Spc.cds
      rw [List.getD, List.getElem?_map, List.getElem?_eq_getElem (show i < L.length by omega), List.getD, List.getElem?_eq_getElem (show i < L.length by omega)]
      have hb := hg.bd (L[i]'(by omega)) (List.getElem_mem _)
      simp only [Option.map_some, Option.getD_some]
      unfold Spc.ch0
      rw [show (((L[i]'(by omega)).toNat : Nat) : Int) = L[i]'(by omega) by omega]
  · rw [m2 (fun i hi he1 => by
      rw [getD_take (by omega)] at he1
      have : L.idxOf (k : Int) ≤ i := by
        rcases Nat.lt_or_ge i (L.idxOf (k : Int)) with h | h
        · exfalso
          have := List.not_of_lt_findIdx (p := fun y => y == (k : Int)) (xs := L) (i := i) (by
            have e2 : List.findIdx (fun y => y == (k : Int)) L = L.idxOf (k : Int) := rfl
            omega)
          rw [List.getD, List.getElem?_eq_getElem (show i < L.length by omega)] at he1
          simp at this
          exact this he1
        · exact h
      omega)]
    unfold updG
    have hne : ¬ k = X.wrap (L.getD 0 0) := fun e1 => by
      have e3 : L.getD 0 0 = (k : Int) := by omega
      have : L.idxOf (k : Int) ≤ 0 := by
        rcases Nat.lt_or_ge 0 (L.idxOf (k : Int)) with h | h
        · exfalso
          have := List.not_of_lt_findIdx (p := fun y => y == (k : Int)) (xs := L) (i := 0) (by
            have e2 : List.findIdx (fun y => y == (k : Int)) L = L.idxOf (k : Int) := rfl
            omega)
          rw [List.getD, List.getElem?_eq_getElem (show 0 < L.length by omega)] at e3
          simp at this
          exact this e3
        · exact h
      omega
    rw [if_neg hne]
    unfold insG
    rw [if_neg (fun h => hin h.2)]
theorem round_len {X : Spc} (ok : X.Ok) (n : Int) : (X.roundL n).length ≤ 65535 := by
  unfold Spc.roundL
  split
  · have := restL_len ok n
    omega
  · rw [placesN_len]
    have := ok.small
    omega
theorem row_len14 {X : Spc} (ok : X.Ok) (n : Int) : (X.row n).length ≤ 65535 := Nat.le_trans (row_round ok n).1 (round_len ok n)
theorem cds_at {X : Spc} {L : List Int} {i : Nat} (h : i < L.length) : (X.cds L).getD i 0 = (X.at_ (L[i])).ch := by
  unfold Spc.cds
  rw [List.getD, List.getElem?_map, List.getElem?_eq_getElem h]
  rfl
theorem nul_some {X : Spc} {L : List Int} {e : Nat} (h : X.nul L = some e) : e < L.length ∧ (X.cds L).getD e 0 = 0 ∧ ∀ i, i < e → (X.cds L).getD i 0 ≠ 0 := by
  unfold Spc.nul at h
  rw [List.findIdx?_eq_some_iff_getElem] at h
  obtain ⟨h1, h2, h3⟩ := h
  refine ⟨h1, ?_, fun i hi => ?_⟩
  · rw [cds_at h1]; simpa using h2
  · rw [cds_at (show i < L.length by omega)]
    have := h3 i hi
    simpa using this
theorem nul_none {X : Spc} {L : List Int} (h : X.nul L = none) : ∀ i, i < L.length → (X.cds L).getD i 0 ≠ 0 := by
  intro i hi
  unfold Spc.nul at h
  rw [List.findIdx?_eq_none_iff] at h
  rw [cds_at hi]
  have := h (L[i]) (List.getElem_mem _)
  simpa using this
set_option maxRecDepth 100000 in
set_option maxHeartbeats 3200000 in
theorem rins_full {q h : Nat} {X : Spc} {n x : Int} {w : World} (hr : RAt w q h X) (ok : X.Ok) (ho : X.open_ n = true) (he : X.nul (X.roundL n) = none) :
    Calls Try.prog 149 #[.pointer (some ⟨q, 0, none⟩), .int .i64 n, .int .u8 x] w fun e w' => e = .returned (.bool false) ∧ Up w w' := by
  have HR := Lib.hid hr
  have HOK := Lib.hid ok
  have H1 := Lib.hid (ropen_is n hr ok)
  rw [ho] at H1
  have H2 := Lib.hid (fun W (h' : RAt W q h X) => rrest_is n true h' ok (lim := X.L.length) (by simp))
  rw [rstL_round ok n] at H2
  have HG := Lib.hid (good_round ok n)
  have hsm : (X.roundL n).length ≤ 65535 := round_len ok n
  have zq := hr.lt
  have zh := hr.cells.2.1
  obtain ⟨L, hL⟩ : ∃ L, X.roundL n = L := ⟨_, rfl⟩
  rw [hL] at H2 HG hsm he
  have HNU := Lib.hid (nul_none he)
  have HCD := Lib.hid (cds_len X L)
  obtain ⟨len, hlen⟩ : ∃ len, L.length = len := ⟨_, rfl⟩
  have HLN := Lib.hid hlen
  rw [hlen] at H2 hsm HCD HNU
  clear hr ok ho hL hlen he
  go_enter Try.func149, Try.ntmps149
  go_wp2_with fail
  refine H1.out.mono ?_
  rintro e1 w1 ⟨rfl, hu1⟩
  have HU1 := Lib.hid hu1
  clear hu1
  go_wp2_with fail
  refine (H2.out _ (HR.out.up HU1.out)).mono ?_
  rintro e2 w2 ⟨A, c, rfl, hown, hu2⟩
  have HOW := Lib.hid hown
  have HU2 := Lib.hid (HU1.out.trans hu2)
  have hz1' := HU1.out.size
  have hcA := hown.le
  have hcA2 : (c : Int) ≤ 9223372036854775807 := by have := hown.mx; simp [maxLen] at this; omega
  clear hown hu2
  go_wp2_with fail
  refine (rcodes_is (HR.out.up HU2.out) HOK.out (HOW.out.low (Nat.zero_le _)) HG.out.bd hsm).mono ?_
  rintro e3 w3 ⟨A3, c3, rfl, hown3, hu3⟩
  have HO3 := Lib.hid hown3
  have HU3 := Lib.hid (HU2.out.trans hu3)
  have HL3 := Lib.hid (HOW.out.up hu3)
  have hz2' := HU2.out.size
  have hz3' := HU3.out.size
  have hle3 := hown3.le
  have hc63 : (c3 : Int) ≤ 9223372036854775807 := by have := hown3.mx; simp [maxLen] at this; omega
  have hcl : ∀ j, j < len → ∃ g off, A3 = some ⟨g, off, none⟩ ∧ g < w3.heap.size ∧ w3.cell? ⟨g, off + j, none⟩ = some (.int .u8 ((X.cds L).getD j 0)) := fun j hj => by
    obtain ⟨g, off, hA3, zg⟩ := hown3.reads.form (by omega)
    obtain ⟨_, u, hu, hc⟩ := (show Reads w3 w3.heap.size 1 (some ⟨g, off, none⟩) len _ from hA3 ▸ hown3.reads).at_ (j := j) (by omega)
    refine ⟨g, off, hA3, zg, ?_⟩
    rw [hc]
    unfold bs at hu
    rw [List.getElem?_map, List.getElem?_eq_getElem (show j < (X.cds L).length by have := HCD.out; omega)] at hu
    injection hu with hu
    rw [← hu, List.getD, List.getElem?_eq_getElem (show j < (X.cds L).length by have := HCD.out; omega)]
    rfl
  have HCL := Lib.hid hcl
  clear hown3 hu3 hcl
  go_wp2_with fail
  go_loopw [23] (fun i wr => ∃ j : Nat, j ≤ len ∧ i = .int .i64 (j : Int) ∧ wr = w3) (fun i _ => len - (intOf i).toNat)
  case atStart => exact ⟨0, by omega, rfl, by first | rfl | trivial⟩
  case round =>
    obtain ⟨j, hj, rfl, hwr⟩ := hrel
    subst hwr
    by_cases hlt : j < len
    · obtain ⟨g, off, rfl, zg, hx⟩ := HCL.out j hlt
      have hjn : (j : Int) < (len : Int) := by omega
      have hne := HNU.out j hlt
      generalize (X.cds L).getD j 0 = y at *
      have hyb : (y == 0) = false := by simpa using hne
      clear hne
      go_wp2_with fail
      go_roundw
      case rel => exact ⟨j + 1, by omega, by go_num, by first | rfl | trivial⟩
      case measure => simp [intOf]; omega
    · obtain rfl : j = len := by omega
      go_wp2_with fail
      go_ret
      exact ⟨rfl, HU3.out⟩
theorem rins_shut {q h : Nat} {X : Spc} {n x : Int} {w : World} (hr : RAt w q h X) (ok : X.Ok) (ho : X.open_ n = false) :
    Calls Try.prog 149 #[.pointer (some ⟨q, 0, none⟩), .int .i64 n, .int .u8 x] w fun e w' => e = .returned (.bool false) ∧ Up w w' := by
  have H1 := Lib.hid (ropen_is n hr ok)
  rw [ho] at H1
  clear hr ok ho
  go_enter Try.func149, Try.ntmps149
  go_wp2_with fail
  refine H1.out.mono ?_
  rintro e w1 ⟨rfl, hu1⟩
  go_wp2_with fail
  go_ret
  exact ⟨rfl, hu1⟩
theorem rdel_no {q h : Nat} {X : Spc} {n : Int} {w : World} (hr : RAt w q h X) (ok : X.Ok) (ho : X.open_ n = false) :
    Calls Try.prog 148 #[.pointer (some ⟨q, 0, none⟩), .int .i64 n] w fun e w' => e = .returned (.bool false) ∧ Up w w' := by
  have H1 := Lib.hid (ropen_is n hr ok)
  rw [ho] at H1
  clear hr ok ho
  go_enter Try.func148, Try.ntmps148
  go_wp2_with fail
  refine H1.out.mono ?_
  rintro e w1 ⟨rfl, hu1⟩
  go_wp2_with fail
  go_ret
  exact ⟨rfl, hu1⟩
set_option maxRecDepth 100000 in
set_option maxHeartbeats 6400000 in
theorem rins_yes {q h : Nat} {X : Spc} {n x : Int} {e : Nat} {w : World} (hxb : isB x) (hr : RAt w q h X) (ok : X.Ok) (ho : X.open_ n = true) (he : X.nul (X.roundL n) = some e) :
    Calls Try.prog 149 #[.pointer (some ⟨q, 0, none⟩), .int .i64 n, .int .u8 x] w fun r w' => r = .returned (.bool true) ∧ RAt w' q h (X.insA n x e) ∧ Keep (two q h) w w' := by
  obtain ⟨i0, hi, hz0, hz1, hz2⟩ := info_parts info_u8
  have HR := Lib.hid hr
  have HOK := Lib.hid ok
  have H1 := Lib.hid (ropen_is n hr ok)
  rw [ho] at H1
  have H2 := Lib.hid (fun W (h' : RAt W q h X) => rrest_is n true h' ok (lim := X.L.length) (by simp))
  rw [rstL_round ok n] at H2
  have HG := Lib.hid (good_round ok n)
  have hsm : (X.roundL n).length ≤ 65535 := round_len ok n
  have zq := hr.lt
  have zh := hr.cells.2.1
  have HE := Lib.hid (show X.insA n x e = (insL X (X.roundL n) x e).modify n from rfl)
  obtain ⟨Y, hY⟩ : ∃ Y, X.insA n x e = Y := ⟨_, rfl⟩
  rw [hY] at HE ⊢
  have HM := Lib.hid (fun W (h' : RAt W q h (insL X (X.roundL n) x e)) => rmodify_is n h' (ins_ok ok n hxb e))
  obtain ⟨L, hL⟩ : ∃ L, X.roundL n = L := ⟨_, rfl⟩
  rw [hL] at H2 HG hsm he HE HM
  have hnu := nul_some he
  have HMV := Lib.hid (mv_ins ok HG.out (x := x) hnu.1)
  have HCB := Lib.hid (show ∀ y ∈ x :: (X.cds L).take e, isB y from fun y hy => by
    rcases List.mem_cons.1 hy with rfl | hy
    · exact hxb
    · obtain ⟨z, hz, rfl⟩ := List.mem_map.1 (List.mem_of_mem_take hy)
      exact (ok.at_wf z).ch)
  have HNU := Lib.hid hnu
  have HCD := Lib.hid (cds_len X L)
  obtain ⟨len, hlen⟩ : ∃ len, L.length = len := ⟨_, rfl⟩
  have HLN := Lib.hid hlen
  rw [hlen] at H2 hsm HCD HNU
  have hel := HNU.out.1
  clear hr ok ho hL hlen he hY hnu
  go_enter Try.func149, Try.ntmps149
  go_wp2_with fail
  refine H1.out.mono ?_
  rintro e1 w1 ⟨rfl, hu1⟩
  have HU1 := Lib.hid hu1
  clear hu1
  go_wp2_with fail
  refine (H2.out _ (HR.out.up HU1.out)).mono ?_
  rintro e2 w2 ⟨A, c, rfl, hown, hu2⟩
  have HOW := Lib.hid hown
  have HU2 := Lib.hid (HU1.out.trans hu2)
  have hz1' := HU1.out.size
  have hcA := hown.le
  have hcA2 : (c : Int) ≤ 9223372036854775807 := by have := hown.mx; simp [maxLen] at this; omega
  clear hown hu2
  go_wp2_with fail
  refine (rcodes_is (HR.out.up HU2.out) HOK.out (HOW.out.low (Nat.zero_le _)) HG.out.bd hsm).mono ?_
  rintro e3 w3 ⟨A3, c3, rfl, hown3, hu3⟩
  have HO3 := Lib.hid hown3
  have HU3 := Lib.hid (HU2.out.trans hu3)
  have HL3 := Lib.hid (HOW.out.up hu3)
  have hz2' := HU2.out.size
  have hz3' := HU3.out.size
  have hle3 := hown3.le
  have hc63 : (c3 : Int) ≤ 9223372036854775807 := by have := hown3.mx; simp [maxLen] at this; omega
  have hcl : ∀ j, j < len → ∃ g off, A3 = some ⟨g, off, none⟩ ∧ g < w3.heap.size ∧ w3.cell? ⟨g, off + j, none⟩ = some (.int .u8 ((X.cds L).getD j 0)) := fun j hj => by
    obtain ⟨g, off, hA3, zg⟩ := hown3.reads.form (by omega)
    obtain ⟨_, u, hu, hc⟩ := (show Reads w3 w3.heap.size 1 (some ⟨g, off, none⟩) len _ from hA3 ▸ hown3.reads).at_ (j := j) (by omega)
    refine ⟨g, off, hA3, zg, ?_⟩
    rw [hc]
    unfold bs at hu
    rw [List.getElem?_map, List.getElem?_eq_getElem (show j < (X.cds L).length by have := HCD.out; omega)] at hu
    injection hu with hu
    rw [← hu, List.getD, List.getElem?_eq_getElem (show j < (X.cds L).length by have := HCD.out; omega)]
    rfl
  have HCL := Lib.hid hcl
  clear hown3 hu3 hcl
  go_wp2_with fail
  go_loopw [23] (fun i wr => ∃ j : Nat, j ≤ e ∧ i = .int .i64 (j : Int) ∧ wr = w3) (fun i _ => e - (intOf i).toNat)
  case atStart => exact ⟨0, by omega, rfl, by first | rfl | trivial⟩
  case round =>
    obtain ⟨j, hj, rfl, hwr⟩ := hrel
    subst hwr
    obtain ⟨g, off, hA3, zg, hx⟩ := HCL.out j (by omega)
    subst hA3
    have hjn : (j : Int) < (len : Int) := by omega
    by_cases hlt : j < e
    · have hne := HNU.out.2.2 j hlt
      generalize (X.cds L).getD j 0 = y at *
      have hyb : (y == 0) = false := by simpa using hne
      clear hne
      go_wp2_with fail
      go_roundw
      case rel => exact ⟨j + 1, by omega, by go_num, by first | rfl | trivial⟩
      case measure => simp [intOf]; omega
    · obtain rfl : j = e := by omega
      rw [HNU.out.2.1] at hx
      have hj1 : (j : Int) + 1 ≤ (c : Int) := by omega
      have hj2 : (j : Int) ≤ (c3 : Int) := by omega
      have HRT := Lib.hid (show Reads wr wr.heap.size 1 (some ⟨g, off, none⟩) j (bs ((X.cds L).take j)) from by
        have := HO3.out.reads.take (k := j) (by omega)
        rw [Nat.mul_one] at this
        rwa [bs, ← List.map_take] at this)
      have HLT := Lib.hid (show Reads wr wr.heap.size 1 A (j + 1) (ns (L.take (j + 1))) from by
        have := HL3.out.reads.take (k := j + 1) (by omega)
        rw [Nat.mul_one] at this
        rwa [ns, ← List.map_take] at this)
      have HWL := Lib.hid (show (wr.drew.alloc (.cells #[.int .u8 x] 5)).ownsRow wr.heap.size 5 1 (.slice (some ⟨wr.heap.size, 0, none⟩) 1 1) 1 (bs [x]) from World.ownsRow_lit (base := wr.heap.size) (size := 1) (e := 5) wr.drew #[.int .u8 x] 1 (Nat.le_refl _) (by simp [maxLen]) rfl)
      have HWU := Lib.hid ((Up.refl wr).drew.alloc (.cells #[.int .u8 x] 5))
      have HAQ := Lib.hid (show ∀ pp, A = some pp → ¬ two q h pp.block from fun pp hpp e => by
        have h1 := (HOW.out.at_ pp hpp).1
        rcases e with e | e <;> omega)
      have hjm1 : 1 + j ≤ maxLen := by simp [maxLen]; omega
      have qw : IntKind.i64.wrap ((j : Int) + 1) = (j : Int) + 1 := IntWalk.i64_in _ (by omega)
      have q0 : (0 : Int) ≤ (j : Int) + 1 := by omega
      have qn : ((j : Int) + 1).toNat = j + 1 := by omega
      go_wp2_with fail
      go_region_law (first | (refine step_app14 rfl (.tmp 36) (.tmp 39) 33 rfl wr.heap.size 5 i0 _ 1 1 Try.underlying33 hi hz0 hz1 hz2 rfl (by decide) (some ⟨wr.heap.size, 0, none⟩) 1 1 (bs [x]) (by simp [Act.eval, Act.put]) HWL.out _ (some ⟨g, off, none⟩) j c3 (bs ((X.cds L).take j)) (by simp [Act.eval, Act.put]) (HRT.out.up HWU.out) (one_u8 _) hjm1 (by omega) (by simp) ?_; intro A4 c4 w4 hown4 hg4 hle4 hmx4 hbl4; have HO4 := Lib.hid hown4; have HU4 := Lib.hid (HWU.out.past hbl4); clear hown4 hg4 hbl4) | (go_simp; go_at_call 164; refine (rmove_is ((HR.out.up HU3.out).up HU4.out) HOK.out (HLT.out.up HU4.out) (show Reads _ _ 1 A4 (1 + j) (bs (x :: (X.cds L).take j)) from Reads.of_own HO4.out) HCB.out (by omega) (by omega) HAQ.out (fun pp hpp e => by have h1 := (own_bd HO4.out pp.block (by rw [hpp]; rfl)).1; rcases e with e | e <;> omega)).mono ?_; rintro e5 w5 ⟨rfl, hr5, hk5⟩; rw [HMV.out] at hr5; have HR5 := Lib.hid hr5; have HK5 := Lib.hid ((Keep.of_up (HU3.out.trans HU4.out)).trans hk5); clear hr5 hk5))
      all_goals
        go_wp2_with fail
        refine (HM.out _ HR5.out).mono ?_
        rintro e w6 ⟨rfl, hs6, hk6⟩
        have HS6 := Lib.hid hs6
        have HK6 := Lib.hid (HK5.out.trans hk6)
        clear hs6 hk6
        go_wp2_with fail
        go_ret
        exact ⟨rfl, by rw [HE.out]; exact HS6.out, HK6.out⟩
end Go.Proofs.Ytjokcfenncogkaa
namespace Go.Proofs.Ytjokcfenncogkaa
open Go.RowKit Go.Shelf
set_option linter.unusedVariables false
set_option linter.unusedSimpArgs false

theorem row_pos {X : Spc} (ok : X.Ok) {n : Int} (h : X.isA n = false) : 0 < (X.row n).length := by
  have hw := ok.wrap n
  have hl := ok.len
  obtain ⟨b1, b2, b3⟩ := rest_bd ok (k := n % (X.r * X.c)) (by omega) (by omega)
  obtain ⟨hn1, hn2, hn3⟩ := rowN_is X (n % (X.r * X.c))
  unfold Spc.row
  rw [rowTo_len]
  rcases Nat.eq_zero_or_pos (X.rowN (n % (X.r * X.c))) with h0 | h0
  · exfalso
    have := hn3 (by omega)
    rw [h0] at this
    simp only [Int.natCast_zero, Int.add_zero] at this
    rw [Spc.isA_emod, h] at this
    cases this
  · exact h0
theorem find_none {X : Spc} (ok : X.Ok) (h : ¬ 0 < attrsN X.L) (n s : Int) : X.find n s = -1 := by
  have hA : ∀ m, X.isA m = false := fun m => by
    cases hm : X.isA m
    · rfl
    · exfalso
      obtain ⟨e, hl⟩ := ok.wrap m
      refine h (attrsN_pos.2 ⟨X.wrap m, hl, ?_⟩)
      rw [← Spc.isA_nat ok hl, ← e, Spc.isA_emod]
      exact hm
  unfold Spc.find
  rw [show X.far n s = none from least_none.2 fun j hj => by
    unfold Spc.fst
    rw [hA]
    rfl]
theorem unpA_ref {X : Spc} (ok : X.Ok) : X.unpA = X.refA := by
  unfold Spc.unpA Spc.refA
  by_cases h : 0 < attrsN X.L
  · rw [if_pos h, unp_eq ok h]
  · obtain ⟨r1, r2⟩ := refU_ok ok
    rw [if_neg h, unf_eq ok h, find_none r1 (by rw [r2.attrsN ok r1]; exact h)]
    rfl
/-- what an act leaves, and answers -/
def Spc.do6 (X : Spc) (d n t : Int) (c : Cl) : Spc × Int :=
  if d = 0 then (X.unpA, 0) else if d = 1 then (X.rngA (X.betw n t), 0) else if d = 2 then (X.repA (X.betw n t) c, (X.lenA n t : Int))
  else if X.open_ n = false then (X, 0)
  else if d = 3 then (X.endA n, 1) else if d = 4 then (X.delA n, 1)
  else match X.nul (X.roundL n) with
    | some e => (X.insA n c.ch e, 1)
    | none => (X, 0)
theorem do6_ok {X : Spc} (ok : X.Ok) (d n t : Int) {c : Cl} (hc : c.Wf) : (X.do6 d n t c).1.Ok ∧ (X.do6 d n t c).1.L.length = X.L.length := by
  unfold Spc.do6
  split
  · refine ⟨unpA_ok ok, ?_⟩
    unfold Spc.unpA
    split
    · exact (unpL_ok ok _).2.len
    · exact chs_len X _
  split
  · exact ⟨rngA_ok ok _, chs_len X _⟩
  split
  · refine ⟨(repA_ok ok _ hc).1, ?_⟩
    have h1 := (repA_ok ok (X.betw n t) hc)
    have h2 := h1.1.len
    rw [h1.2.1, h1.2.2] at h2
    have := ok.len
    show (X.repA (X.betw n t) c).L.length = _
    omega
  split
  · exact ⟨ok, rfl⟩
  split
  · exact ⟨endA_ok ok n, (endA_alk ok n).len⟩
  split
  · exact ⟨delA_ok ok n, ((chs_alk X _).trans (modify_alk (chs_ok ok (delG_b (ch0_b ok) _ _)) n)).len⟩
  · split
    · rename_i e he
      exact ⟨insA_ok ok n hc.ch e, (insA_alk ok n hc.ch e).len⟩
    · exact ⟨ok, rfl⟩
set_option maxHeartbeats 3200000 in
theorem cdo6_is {p g : Nat} {X : Spc} {w : World} (d n t : Int) (c : Cl) (d0 : 0 ≤ d) (d1 : d ≤ 255) (hc : c.Wf) (hs : SAt w p g X) (ok : X.Ok) :
    Calls Try.prog 103 #[.pointer (some ⟨p, 0, none⟩), .agg #[.int .u8 d, .int .i64 n, .int .i64 t, .int .u8 c.ch, .bool c.at_, .int .u8 c.fa, .int .u8 c.hi, .int .u8 c.co, .int .u8 c.se]] w fun e w' => e = .returned (.int .i64 (X.do6 (d % 6) n t c).2) ∧ SAt w' p g (X.do6 (d % 6) n t c).1 ∧ Keep (two p g) w w' := by
  have HS := Lib.hid hs
  have H0 := Lib.hid (fun W (h : SAt W p g X) => show Calls Try.prog 106 #[.pointer (some ⟨p, 0, none⟩)] W fun e w' => e = .returned (.tuple #[]) ∧ SAt w' p g X.unpA ∧ Keep (two p g) W w' from cunp_is h ok)
  have H1 := Lib.hid (fun W (h : SAt W p g X) => show Calls Try.prog 107 #[.pointer (some ⟨p, 0, none⟩), .int .i64 n, .int .i64 t] W fun e w' => e = .returned (.tuple #[]) ∧ SAt w' p g (X.rngA (X.betw n t)) ∧ Keep (two p g) W w' from crange_is (a := n) (b := t) (lenA_is ok n t) h ok)
  have H2 := Lib.hid (fun W (h : SAt W p g X) => show Calls Try.prog 108 #[.pointer (some ⟨p, 0, none⟩), .int .i64 n, .int .i64 t, .agg #[.int .u8 c.ch, .bool c.at_, .int .u8 c.fa, .int .u8 c.hi, .int .u8 c.co, .int .u8 c.se]] W fun e w' => e = .returned (.int .i64 (X.lenA n t : Int)) ∧ SAt w' p g (X.repA (X.betw n t) c) ∧ Keep (two p g) W w' from crepeat_is (a := n) (b := t) hc (lenA_is ok n t) h ok)
  have H3y := Lib.hid (fun W (h : SAt W p g X) => cend_yes (n := n) h ok)
  have H3n := Lib.hid (fun W (h : SAt W p g X) => cend_no (n := n) h ok)
  have H4y := Lib.hid (fun W (h : SAt W p g X) => cdel_yes (n := n) h ok)
  have H4n := Lib.hid (fun W (h : SAt W p g X) => cdel_no (n := n) h ok)
  have H5y := Lib.hid (fun W ee (h : SAt W p g X) => cins_yes (n := n) (e := ee) hc.ch h ok)
  have H5s := Lib.hid (fun W (h : SAt W p g X) => cins_shut (n := n) (x := c.ch) h ok)
  have H5f := Lib.hid (fun W (h : SAt W p g X) => cins_full (n := n) (x := c.ch) h ok)
  obtain ⟨ch, at_, fa, hi, co, se⟩ := c
  simp only at H2 H5y H5s H5f ⊢
  have HB := Lib.hid ok
  clear hs ok hc
  have hmd : 0 ≤ d % 6 ∧ d % 6 < 6 := by omega
  obtain ⟨e6, he6⟩ : ∃ e6, d % 6 = e6 := ⟨_, rfl⟩
  rw [he6] at hmd
  rcases (show e6 = 0 ∨ e6 = 1 ∨ e6 = 2 ∨ e6 = 3 ∨ e6 = 4 ∨ e6 = 5 by omega) with rfl | rfl | rfl | rfl | rfl | rfl
  · rw [he6]
    rw [show X.do6 0 n t ⟨ch, at_, fa, hi, co, se⟩ = (X.unpA, 0) from rfl]
    have E0 : (d % 6 == 0) = true := by rw [he6]; decide
    have E1 : (d % 6 == 1) = false := by rw [he6]; decide
    have E2 : (d % 6 == 2) = false := by rw [he6]; decide
    have E3 : (d % 6 == 3) = false := by rw [he6]; decide
    have E4 : (d % 6 == 4) = false := by rw [he6]; decide
    clear he6 hmd
    go_enter Try.func103, Try.ntmps103
    go_wp2_with fail
    have HU0 := Lib.hid ((Up.refl w).alloc (.cells #[.int .u8 d, .int .i64 n, .int .i64 t, .int .u8 ch, .bool at_, .int .u8 fa, .int .u8 hi, .int .u8 co, .int .u8 se] 110))
    refine (H0.out _ (HS.out.up HU0.out)).mono ?_
    rintro e w1 ⟨rfl, hs1, hk1⟩
    have HR := Lib.hid (show SAt w1 p g X.unpA ∧ Keep (two p g) w w1 from ⟨hs1, (Keep.of_up HU0.out).trans hk1⟩)
    clear hs1 hk1
    go_wp2_with fail
    go_ret
    exact ⟨rfl, HR.out⟩
  · rw [he6]
    rw [show X.do6 1 n t ⟨ch, at_, fa, hi, co, se⟩ = (X.rngA (X.betw n t), 0) from rfl]
    have E0 : (d % 6 == 0) = false := by rw [he6]; decide
    have E1 : (d % 6 == 1) = true := by rw [he6]; decide
    have E2 : (d % 6 == 2) = false := by rw [he6]; decide
    have E3 : (d % 6 == 3) = false := by rw [he6]; decide
    have E4 : (d % 6 == 4) = false := by rw [he6]; decide
    clear he6 hmd
    go_enter Try.func103, Try.ntmps103
    go_wp2_with fail
    have HU0 := Lib.hid ((Up.refl w).alloc (.cells #[.int .u8 d, .int .i64 n, .int .i64 t, .int .u8 ch, .bool at_, .int .u8 fa, .int .u8 hi, .int .u8 co, .int .u8 se] 110))
    refine (H1.out _ (HS.out.up HU0.out)).mono ?_
    rintro e w1 ⟨rfl, hs1, hk1⟩
    have HR := Lib.hid (show SAt w1 p g (X.rngA (X.betw n t)) ∧ Keep (two p g) w w1 from ⟨hs1, (Keep.of_up HU0.out).trans hk1⟩)
    clear hs1 hk1
    go_wp2_with fail
    go_ret
    exact ⟨rfl, HR.out⟩
  · rw [he6]
    rw [show X.do6 2 n t ⟨ch, at_, fa, hi, co, se⟩ = (X.repA (X.betw n t) ⟨ch, at_, fa, hi, co, se⟩, (X.lenA n t : Int)) from rfl]
    have E0 : (d % 6 == 0) = false := by rw [he6]; decide
    have E1 : (d % 6 == 1) = false := by rw [he6]; decide
    have E2 : (d % 6 == 2) = true := by rw [he6]; decide
    have E3 : (d % 6 == 3) = false := by rw [he6]; decide
    have E4 : (d % 6 == 4) = false := by rw [he6]; decide
    clear he6 hmd
    go_enter Try.func103, Try.ntmps103
    go_wp2_with fail
    have HU0 := Lib.hid ((Up.refl w).alloc (.cells #[.int .u8 d, .int .i64 n, .int .i64 t, .int .u8 ch, .bool at_, .int .u8 fa, .int .u8 hi, .int .u8 co, .int .u8 se] 110))
    refine (H2.out _ (HS.out.up HU0.out)).mono ?_
    rintro e w1 ⟨rfl, hs1, hk1⟩
    have HR := Lib.hid (show SAt w1 p g (X.repA (X.betw n t) ⟨ch, at_, fa, hi, co, se⟩) ∧ Keep (two p g) w w1 from ⟨hs1, (Keep.of_up HU0.out).trans hk1⟩)
    clear hs1 hk1
    go_wp2_with fail
    go_ret
    exact ⟨rfl, HR.out⟩
  · rw [he6]
    have E0 : (d % 6 == 0) = false := by rw [he6]; decide
    have E1 : (d % 6 == 1) = false := by rw [he6]; decide
    have E2 : (d % 6 == 2) = false := by rw [he6]; decide
    have E3 : (d % 6 == 3) = true := by rw [he6]; decide
    have E4 : (d % 6 == 4) = false := by rw [he6]; decide
    cases ho : X.open_ n
    · rw [show X.do6 3 n t ⟨ch, at_, fa, hi, co, se⟩ = (X, 0) from by unfold Spc.do6; simp [ho]]
      have HO := Lib.hid ho
      clear he6 hmd ho
      go_enter Try.func103, Try.ntmps103
      go_wp2_with fail
      have HU0 := Lib.hid ((Up.refl w).alloc (.cells #[.int .u8 d, .int .i64 n, .int .i64 t, .int .u8 ch, .bool at_, .int .u8 fa, .int .u8 hi, .int .u8 co, .int .u8 se] 110))
      refine (H3n.out _ (HS.out.up HU0.out) HO.out).mono ?_
      rintro e w1 ⟨rfl, hu1⟩
      have HR := Lib.hid (show SAt w1 p g X ∧ Keep (two p g) w w1 from ⟨HS.out.up (HU0.out.trans hu1), Keep.of_up (HU0.out.trans hu1)⟩)
      clear hu1
      go_wp2_with fail
      go_ret
      exact ⟨rfl, HR.out⟩
    · rw [show X.do6 3 n t ⟨ch, at_, fa, hi, co, se⟩ = (X.endA n, 1) from by unfold Spc.do6; simp [ho]]
      have HO := Lib.hid ho
      clear he6 hmd ho
      go_enter Try.func103, Try.ntmps103
      go_wp2_with fail
      have HU0 := Lib.hid ((Up.refl w).alloc (.cells #[.int .u8 d, .int .i64 n, .int .i64 t, .int .u8 ch, .bool at_, .int .u8 fa, .int .u8 hi, .int .u8 co, .int .u8 se] 110))
      refine (H3y.out _ (HS.out.up HU0.out) HO.out).mono ?_
      rintro e w1 ⟨rfl, hs1, hk1⟩
      have HR := Lib.hid (show SAt w1 p g (X.endA n) ∧ Keep (two p g) w w1 from ⟨hs1, (Keep.of_up HU0.out).trans hk1⟩)
      clear hs1 hk1
      go_wp2_with fail
      go_ret
      exact ⟨rfl, HR.out⟩
  · rw [he6]
    have E0 : (d % 6 == 0) = false := by rw [he6]; decide
    have E1 : (d % 6 == 1) = false := by rw [he6]; decide
    have E2 : (d % 6 == 2) = false := by rw [he6]; decide
    have E3 : (d % 6 == 3) = false := by rw [he6]; decide
    have E4 : (d % 6 == 4) = true := by rw [he6]; decide
    cases ho : X.open_ n
    · rw [show X.do6 4 n t ⟨ch, at_, fa, hi, co, se⟩ = (X, 0) from by unfold Spc.do6; simp [ho]]
      have HO := Lib.hid ho
      clear he6 hmd ho
      go_enter Try.func103, Try.ntmps103
      go_wp2_with fail
      have HU0 := Lib.hid ((Up.refl w).alloc (.cells #[.int .u8 d, .int .i64 n, .int .i64 t, .int .u8 ch, .bool at_, .int .u8 fa, .int .u8 hi, .int .u8 co, .int .u8 se] 110))
      refine (H4n.out _ (HS.out.up HU0.out) HO.out).mono ?_
      rintro e w1 ⟨rfl, hu1⟩
      have HR := Lib.hid (show SAt w1 p g X ∧ Keep (two p g) w w1 from ⟨HS.out.up (HU0.out.trans hu1), Keep.of_up (HU0.out.trans hu1)⟩)
      clear hu1
      go_wp2_with fail
      go_ret
      exact ⟨rfl, HR.out⟩
    · rw [show X.do6 4 n t ⟨ch, at_, fa, hi, co, se⟩ = (X.delA n, 1) from by unfold Spc.do6; simp [ho]]
      have HO := Lib.hid ho
      clear he6 hmd ho
      go_enter Try.func103, Try.ntmps103
      go_wp2_with fail
      have HU0 := Lib.hid ((Up.refl w).alloc (.cells #[.int .u8 d, .int .i64 n, .int .i64 t, .int .u8 ch, .bool at_, .int .u8 fa, .int .u8 hi, .int .u8 co, .int .u8 se] 110))
      refine (H4y.out _ (HS.out.up HU0.out) HO.out).mono ?_
      rintro e w1 ⟨rfl, hs1, hk1⟩
      have HR := Lib.hid (show SAt w1 p g (X.delA n) ∧ Keep (two p g) w w1 from ⟨hs1, (Keep.of_up HU0.out).trans hk1⟩)
      clear hs1 hk1
      go_wp2_with fail
      go_ret
      exact ⟨rfl, HR.out⟩
  · rw [he6]
    have E0 : (d % 6 == 0) = false := by rw [he6]; decide
    have E1 : (d % 6 == 1) = false := by rw [he6]; decide
    have E2 : (d % 6 == 2) = false := by rw [he6]; decide
    have E3 : (d % 6 == 3) = false := by rw [he6]; decide
    have E4 : (d % 6 == 4) = false := by rw [he6]; decide
    cases ho : X.open_ n
    · rw [show X.do6 5 n t ⟨ch, at_, fa, hi, co, se⟩ = (X, 0) from by unfold Spc.do6; simp [ho]]
      have HO := Lib.hid ho
      clear he6 hmd ho
      go_enter Try.func103, Try.ntmps103
      go_wp2_with fail
      have HU0 := Lib.hid ((Up.refl w).alloc (.cells #[.int .u8 d, .int .i64 n, .int .i64 t, .int .u8 ch, .bool at_, .int .u8 fa, .int .u8 hi, .int .u8 co, .int .u8 se] 110))
      refine (H5s.out _ (HS.out.up HU0.out) HO.out).mono ?_
      rintro e w1 ⟨rfl, hu1⟩
      have HR := Lib.hid (show SAt w1 p g X ∧ Keep (two p g) w w1 from ⟨HS.out.up (HU0.out.trans hu1), Keep.of_up (HU0.out.trans hu1)⟩)
      clear hu1
      go_wp2_with fail
      go_ret
      exact ⟨rfl, HR.out⟩
    · cases hn : X.nul (X.roundL n) with
      | none =>
        rw [show X.do6 5 n t ⟨ch, at_, fa, hi, co, se⟩ = (X, 0) from by unfold Spc.do6; simp [ho, hn]]
        have HO := Lib.hid ho
        have HN := Lib.hid hn
        clear he6 hmd ho hn
        go_enter Try.func103, Try.ntmps103
        go_wp2_with fail
        have HU0 := Lib.hid ((Up.refl w).alloc (.cells #[.int .u8 d, .int .i64 n, .int .i64 t, .int .u8 ch, .bool at_, .int .u8 fa, .int .u8 hi, .int .u8 co, .int .u8 se] 110))
        refine (H5f.out _ (HS.out.up HU0.out) HO.out HN.out).mono ?_
        rintro e w1 ⟨rfl, hu1⟩
        have HR := Lib.hid (show SAt w1 p g X ∧ Keep (two p g) w w1 from ⟨HS.out.up (HU0.out.trans hu1), Keep.of_up (HU0.out.trans hu1)⟩)
        clear hu1
        go_wp2_with fail
        go_ret
        exact ⟨rfl, HR.out⟩
      | some ee =>
        rw [show X.do6 5 n t ⟨ch, at_, fa, hi, co, se⟩ = (X.insA n ch ee, 1) from by unfold Spc.do6; simp [ho, hn]]
        have HO := Lib.hid ho
        have HN := Lib.hid hn
        clear he6 hmd ho hn
        go_enter Try.func103, Try.ntmps103
        go_wp2_with fail
        have HU0 := Lib.hid ((Up.refl w).alloc (.cells #[.int .u8 d, .int .i64 n, .int .i64 t, .int .u8 ch, .bool at_, .int .u8 fa, .int .u8 hi, .int .u8 co, .int .u8 se] 110))
        refine (H5y.out _ ee (HS.out.up HU0.out) HO.out HN.out).mono ?_
        rintro e w1 ⟨rfl, hs1, hk1⟩
        have HR := Lib.hid (show SAt w1 p g (X.insA n ch ee) ∧ Keep (two p g) w w1 from ⟨hs1, (Keep.of_up HU0.out).trans hk1⟩)
        clear hs1 hk1
        go_wp2_with fail
        go_ret
        exact ⟨rfl, HR.out⟩
set_option maxHeartbeats 3200000 in
theorem rdo6_is {q h : Nat} {X : Spc} {w : World} (d n t : Int) (c : Cl) (d0 : 0 ≤ d) (d1 : d ≤ 255) (hc : c.Wf) (hs : RAt w q h X) (ok : X.Ok) :
    Calls Try.prog 104 #[.pointer (some ⟨q, 0, none⟩), .agg #[.int .u8 d, .int .i64 n, .int .i64 t, .int .u8 c.ch, .bool c.at_, .int .u8 c.fa, .int .u8 c.hi, .int .u8 c.co, .int .u8 c.se]] w fun e w' => e = .returned (.int .i64 (X.do6 (d % 6) n t c).2) ∧ RAt w' q h (X.do6 (d % 6) n t c).1 ∧ Keep (two q h) w w' := by
  have HS := Lib.hid hs
  have H0 := Lib.hid (fun W (hh : RAt W q h X) => show Calls Try.prog 144 #[.pointer (some ⟨q, 0, none⟩)] W fun e w' => e = .returned (.tuple #[]) ∧ RAt w' q h X.unpA ∧ Keep (two q h) W w' from by rw [unpA_ref ok]; exact runp_is hh ok)
  have H1 := Lib.hid (fun W (hh : RAt W q h X) => show Calls Try.prog 145 #[.pointer (some ⟨q, 0, none⟩), .int .i64 n, .int .i64 t] W fun e w' => e = .returned (.tuple #[]) ∧ RAt w' q h (X.rngA (X.betw n t)) ∧ Keep (two q h) W w' from rrange_is hh ok)
  have H2 := Lib.hid (fun W (hh : RAt W q h X) => show Calls Try.prog 146 #[.pointer (some ⟨q, 0, none⟩), .int .i64 n, .int .i64 t, .agg #[.int .u8 c.ch, .bool c.at_, .int .u8 c.fa, .int .u8 c.hi, .int .u8 c.co, .int .u8 c.se]] W fun e w' => e = .returned (.int .i64 (X.lenA n t : Int)) ∧ RAt w' q h (X.repA (X.betw n t) c) ∧ Keep (two q h) W w' from rrepeat_is hc hh ok)
  have H3y := Lib.hid (fun W (hh : RAt W q h X) => rend_yes (n := n) hh ok)
  have H3n := Lib.hid (fun W (hh : RAt W q h X) => rend_no (n := n) hh ok)
  have H4y := Lib.hid (fun W (hh : RAt W q h X) => fun (ho : X.open_ n = true) => rdel_yes (n := n) hh ok ho (row_pos ok (open_isA ho)) (row_len14 ok n))
  have H4n := Lib.hid (fun W (hh : RAt W q h X) => rdel_no (n := n) hh ok)
  have H5y := Lib.hid (fun W ee (hh : RAt W q h X) => rins_yes (n := n) (e := ee) hc.ch hh ok)
  have H5s := Lib.hid (fun W (hh : RAt W q h X) => rins_shut (n := n) (x := c.ch) hh ok)
  have H5f := Lib.hid (fun W (hh : RAt W q h X) => rins_full (n := n) (x := c.ch) hh ok)
  obtain ⟨ch, at_, fa, hi, co, se⟩ := c
  simp only at H2 H5y H5s H5f ⊢
  have HB := Lib.hid ok
  clear hs ok hc
  have hmd : 0 ≤ d % 6 ∧ d % 6 < 6 := by omega
  obtain ⟨e6, he6⟩ : ∃ e6, d % 6 = e6 := ⟨_, rfl⟩
  rw [he6] at hmd
  rcases (show e6 = 0 ∨ e6 = 1 ∨ e6 = 2 ∨ e6 = 3 ∨ e6 = 4 ∨ e6 = 5 by omega) with rfl | rfl | rfl | rfl | rfl | rfl
  · rw [he6]
    rw [show X.do6 0 n t ⟨ch, at_, fa, hi, co, se⟩ = (X.unpA, 0) from rfl]
    have E0 : (d % 6 == 0) = true := by rw [he6]; decide
    have E1 : (d % 6 == 1) = false := by rw [he6]; decide
    have E2 : (d % 6 == 2) = false := by rw [he6]; decide
    have E3 : (d % 6 == 3) = false := by rw [he6]; decide
    have E4 : (d % 6 == 4) = false := by rw [he6]; decide
    clear he6 hmd
    go_enter Try.func104, Try.ntmps104
    go_wp2_with fail
    have HU0 := Lib.hid ((Up.refl w).alloc (.cells #[.int .u8 d, .int .i64 n, .int .i64 t, .int .u8 ch, .bool at_, .int .u8 fa, .int .u8 hi, .int .u8 co, .int .u8 se] 110))
    refine (H0.out _ (HS.out.up HU0.out)).mono ?_
    rintro e w1 ⟨rfl, hs1, hk1⟩
    have HR := Lib.hid (show RAt w1 q h X.unpA ∧ Keep (two q h) w w1 from ⟨hs1, (Keep.of_up HU0.out).trans hk1⟩)
    clear hs1 hk1
    go_wp2_with fail
    go_ret
    exact ⟨rfl, HR.out⟩
  · rw [he6]
    rw [show X.do6 1 n t ⟨ch, at_, fa, hi, co, se⟩ = (X.rngA (X.betw n t), 0) from rfl]
    have E0 : (d % 6 == 0) = false := by rw [he6]; decide
    have E1 : (d % 6 == 1) = true := by rw [he6]; decide
    have E2 : (d % 6 == 2) = false := by rw [he6]; decide
    have E3 : (d % 6 == 3) = false := by rw [he6]; decide
    have E4 : (d % 6 == 4) = false := by rw [he6]; decide
    clear he6 hmd
    go_enter Try.func104, Try.ntmps104
    go_wp2_with fail
    have HU0 := Lib.hid ((Up.refl w).alloc (.cells #[.int .u8 d, .int .i64 n, .int .i64 t, .int .u8 ch, .bool at_, .int .u8 fa, .int .u8 hi, .int .u8 co, .int .u8 se] 110))
    refine (H1.out _ (HS.out.up HU0.out)).mono ?_
    rintro e w1 ⟨rfl, hs1, hk1⟩
    have HR := Lib.hid (show RAt w1 q h (X.rngA (X.betw n t)) ∧ Keep (two q h) w w1 from ⟨hs1, (Keep.of_up HU0.out).trans hk1⟩)
    clear hs1 hk1
    go_wp2_with fail
    go_ret
    exact ⟨rfl, HR.out⟩
  · rw [he6]
    rw [show X.do6 2 n t ⟨ch, at_, fa, hi, co, se⟩ = (X.repA (X.betw n t) ⟨ch, at_, fa, hi, co, se⟩, (X.lenA n t : Int)) from rfl]
    have E0 : (d % 6 == 0) = false := by rw [he6]; decide
    have E1 : (d % 6 == 1) = false := by rw [he6]; decide
    have E2 : (d % 6 == 2) = true := by rw [he6]; decide
    have E3 : (d % 6 == 3) = false := by rw [he6]; decide
    have E4 : (d % 6 == 4) = false := by rw [he6]; decide
    clear he6 hmd
    go_enter Try.func104, Try.ntmps104
    go_wp2_with fail
    have HU0 := Lib.hid ((Up.refl w).alloc (.cells #[.int .u8 d, .int .i64 n, .int .i64 t, .int .u8 ch, .bool at_, .int .u8 fa, .int .u8 hi, .int .u8 co, .int .u8 se] 110))
    refine (H2.out _ (HS.out.up HU0.out)).mono ?_
    rintro e w1 ⟨rfl, hs1, hk1⟩
    have HR := Lib.hid (show RAt w1 q h (X.repA (X.betw n t) ⟨ch, at_, fa, hi, co, se⟩) ∧ Keep (two q h) w w1 from ⟨hs1, (Keep.of_up HU0.out).trans hk1⟩)
    clear hs1 hk1
    go_wp2_with fail
    go_ret
    exact ⟨rfl, HR.out⟩
  · rw [he6]
    have E0 : (d % 6 == 0) = false := by rw [he6]; decide
    have E1 : (d % 6 == 1) = false := by rw [he6]; decide
    have E2 : (d % 6 == 2) = false := by rw [he6]; decide
    have E3 : (d % 6 == 3) = true := by rw [he6]; decide
    have E4 : (d % 6 == 4) = false := by rw [he6]; decide
    cases ho : X.open_ n
    · rw [show X.do6 3 n t ⟨ch, at_, fa, hi, co, se⟩ = (X, 0) from by unfold Spc.do6; simp [ho]]
      have HO := Lib.hid ho
      clear he6 hmd ho
      go_enter Try.func104, Try.ntmps104
      go_wp2_with fail
      have HU0 := Lib.hid ((Up.refl w).alloc (.cells #[.int .u8 d, .int .i64 n, .int .i64 t, .int .u8 ch, .bool at_, .int .u8 fa, .int .u8 hi, .int .u8 co, .int .u8 se] 110))
      refine (H3n.out _ (HS.out.up HU0.out) HO.out).mono ?_
      rintro e w1 ⟨rfl, hu1⟩
      have HR := Lib.hid (show RAt w1 q h X ∧ Keep (two q h) w w1 from ⟨HS.out.up (HU0.out.trans hu1), Keep.of_up (HU0.out.trans hu1)⟩)
      clear hu1
      go_wp2_with fail
      go_ret
      exact ⟨rfl, HR.out⟩
    · rw [show X.do6 3 n t ⟨ch, at_, fa, hi, co, se⟩ = (X.endA n, 1) from by unfold Spc.do6; simp [ho]]
      have HO := Lib.hid ho
      clear he6 hmd ho
      go_enter Try.func104, Try.ntmps104
      go_wp2_with fail
      have HU0 := Lib.hid ((Up.refl w).alloc (.cells #[.int .u8 d, .int .i64 n, .int .i64 t, .int .u8 ch, .bool at_, .int .u8 fa, .int .u8 hi, .int .u8 co, .int .u8 se] 110))
      refine (H3y.out _ (HS.out.up HU0.out) HO.out).mono ?_
      rintro e w1 ⟨rfl, hs1, hk1⟩
      have HR := Lib.hid (show RAt w1 q h (X.endA n) ∧ Keep (two q h) w w1 from ⟨hs1, (Keep.of_up HU0.out).trans hk1⟩)
      clear hs1 hk1
      go_wp2_with fail
      go_ret
      exact ⟨rfl, HR.out⟩
  · rw [he6]
    have E0 : (d % 6 == 0) = false := by rw [he6]; decide
    have E1 : (d % 6 == 1) = false := by rw [he6]; decide
    have E2 : (d % 6 == 2) = false := by rw [he6]; decide
    have E3 : (d % 6 == 3) = false := by rw [he6]; decide
    have E4 : (d % 6 == 4) = true := by rw [he6]; decide
    cases ho : X.open_ n
    · rw [show X.do6 4 n t ⟨ch, at_, fa, hi, co, se⟩ = (X, 0) from by unfold Spc.do6; simp [ho]]
      have HO := Lib.hid ho
      clear he6 hmd ho
      go_enter Try.func104, Try.ntmps104
      go_wp2_with fail
      have HU0 := Lib.hid ((Up.refl w).alloc (.cells #[.int .u8 d, .int .i64 n, .int .i64 t, .int .u8 ch, .bool at_, .int .u8 fa, .int .u8 hi, .int .u8 co, .int .u8 se] 110))
      refine (H4n.out _ (HS.out.up HU0.out) HO.out).mono ?_
      rintro e w1 ⟨rfl, hu1⟩
      have HR := Lib.hid (show RAt w1 q h X ∧ Keep (two q h) w w1 from ⟨HS.out.up (HU0.out.trans hu1), Keep.of_up (HU0.out.trans hu1)⟩)
      clear hu1
      go_wp2_with fail
      go_ret
      exact ⟨rfl, HR.out⟩
    · rw [show X.do6 4 n t ⟨ch, at_, fa, hi, co, se⟩ = (X.delA n, 1) from by unfold Spc.do6; simp [ho]]
      have HO := Lib.hid ho
      clear he6 hmd ho
      go_enter Try.func104, Try.ntmps104
      go_wp2_with fail
      have HU0 := Lib.hid ((Up.refl w).alloc (.cells #[.int .u8 d, .int .i64 n, .int .i64 t, .int .u8 ch, .bool at_, .int .u8 fa, .int .u8 hi, .int .u8 co, .int .u8 se] 110))
      refine (H4y.out _ (HS.out.up HU0.out) HO.out).mono ?_
      rintro e w1 ⟨rfl, hs1, hk1⟩
      have HR := Lib.hid (show RAt w1 q h (X.delA n) ∧ Keep (two q h) w w1 from ⟨hs1, (Keep.of_up HU0.out).trans hk1⟩)
      clear hs1 hk1
      go_wp2_with fail
      go_ret
      exact ⟨rfl, HR.out⟩
  · rw [he6]
    have E0 : (d % 6 == 0) = false := by rw [he6]; decide
    have E1 : (d % 6 == 1) = false := by rw [he6]; decide
    have E2 : (d % 6 == 2) = false := by rw [he6]; decide
    have E3 : (d % 6 == 3) = false := by rw [he6]; decide
    have E4 : (d % 6 == 4) = false := by rw [he6]; decide
    cases ho : X.open_ n
    · rw [show X.do6 5 n t ⟨ch, at_, fa, hi, co, se⟩ = (X, 0) from by unfold Spc.do6; simp [ho]]
      have HO := Lib.hid ho
      clear he6 hmd ho
      go_enter Try.func104, Try.ntmps104
      go_wp2_with fail
      have HU0 := Lib.hid ((Up.refl w).alloc (.cells #[.int .u8 d, .int .i64 n, .int .i64 t, .int .u8 ch, .bool at_, .int .u8 fa, .int .u8 hi, .int .u8 co, .int .u8 se] 110))
      refine (H5s.out _ (HS.out.up HU0.out) HO.out).mono ?_
      rintro e w1 ⟨rfl, hu1⟩
      have HR := Lib.hid (show RAt w1 q h X ∧ Keep (two q h) w w1 from ⟨HS.out.up (HU0.out.trans hu1), Keep.of_up (HU0.out.trans hu1)⟩)
      clear hu1
      go_wp2_with fail
      go_ret
      exact ⟨rfl, HR.out⟩
    · cases hn : X.nul (X.roundL n) with
      | none =>
        rw [show X.do6 5 n t ⟨ch, at_, fa, hi, co, se⟩ = (X, 0) from by unfold Spc.do6; simp [ho, hn]]
        have HO := Lib.hid ho
        have HN := Lib.hid hn
        clear he6 hmd ho hn
        go_enter Try.func104, Try.ntmps104
        go_wp2_with fail
        have HU0 := Lib.hid ((Up.refl w).alloc (.cells #[.int .u8 d, .int .i64 n, .int .i64 t, .int .u8 ch, .bool at_, .int .u8 fa, .int .u8 hi, .int .u8 co, .int .u8 se] 110))
        refine (H5f.out _ (HS.out.up HU0.out) HO.out HN.out).mono ?_
        rintro e w1 ⟨rfl, hu1⟩
        have HR := Lib.hid (show RAt w1 q h X ∧ Keep (two q h) w w1 from ⟨HS.out.up (HU0.out.trans hu1), Keep.of_up (HU0.out.trans hu1)⟩)
        clear hu1
        go_wp2_with fail
        go_ret
        exact ⟨rfl, HR.out⟩
      | some ee =>
        rw [show X.do6 5 n t ⟨ch, at_, fa, hi, co, se⟩ = (X.insA n ch ee, 1) from by unfold Spc.do6; simp [ho, hn]]
        have HO := Lib.hid ho
        have HN := Lib.hid hn
        clear he6 hmd ho hn
        go_enter Try.func104, Try.ntmps104
        go_wp2_with fail
        have HU0 := Lib.hid ((Up.refl w).alloc (.cells #[.int .u8 d, .int .i64 n, .int .i64 t, .int .u8 ch, .bool at_, .int .u8 fa, .int .u8 hi, .int .u8 co, .int .u8 se] 110))
        refine (H5y.out _ ee (HS.out.up HU0.out) HO.out HN.out).mono ?_
        rintro e w1 ⟨rfl, hs1, hk1⟩
        have HR := Lib.hid (show RAt w1 q h (X.insA n ch ee) ∧ Keep (two q h) w w1 from ⟨hs1, (Keep.of_up HU0.out).trans hk1⟩)
        clear hs1 hk1
        go_wp2_with fail
        go_ret
        exact ⟨rfl, HR.out⟩
end Go.Proofs.Ytjokcfenncogkaa
