/-
  addr's Span as an iterator, of a size that there is; what Collect makes of it. No condition.
  erase's Row as an iterator; what Collect makes of it. No condition.
  A screen with other codes: its attributes, fields and places stay. No condition.
  erase's rest and round: the places from one on. No condition.
  What erasing, deleting and inserting does to codes, in plain terms. No condition.
  erase's End and Delete. No condition.
  erase's Delete. No condition.
  erase's Insert. No condition.
  Screens with the same attributes' places have the same fields; what modifying does to a cell. No condition.
-/
import Derived.Test.YtjokcfenncogkaaCollN
import Derived.Test.YtjokcfenncogkaaSpan
import Derived.Stop.RegionWithIn
import Derived.Shelf.Abstract
import Derived.Test.YtjokcfenncogkaaFld1
import Derived.Test.YtjokcfenncogkaaMix
import Derived.Test.YtjokcfenncogkaaPl13b
import Derived.Test.YtjokcfenncogkaaTabsAll
import Derived.Test.YtjokcfenncogkaaPlaces13
import Derived.Test.YtjokcfenncogkaaLen13
import Derived.Test.YtjokcfenncogkaaOf13
import Derived.Test.YtjokcfenncogkaaMod13
import Derived.Test.YtjokcfenncogkaaMixT
namespace Go.Proofs.Ytjokcfenncogkaa
open Go.RowKit Go.Shelf
set_option linter.unusedVariables false
set_option linter.unusedSimpArgs false
attribute [local go_sem] Oper.semAt_some

theorem enters_span : ∀ args w, (callFunc 166 args).run Try.prog w = .ok (.enter 166 args) w := enters_of Try.func166 (by kernel_rfl) rfl
/-- the boxes of a span -/
def SeeSp (r c f t : Int) (b1 b2 b3 : Nat) (W : World) : Prop := W.cell? ⟨b1, 0, none⟩ = some (.int .i64 r) ∧ W.cell? ⟨b1, 1, none⟩ = some (.int .i64 c) ∧ W.cell? ⟨b2, 0, none⟩ = some (.int .i64 f) ∧ W.cell? ⟨b3, 0, none⟩ = some (.int .i64 t)
theorem spann_val (r c f t : Int) (w : World) :
    Calls Try.prog 151 #[.agg #[.int .i64 r, .int .i64 c], .int .i64 f, .int .i64 t] w fun e w' => ∃ b1 b2 b3, e = .returned (.func (.func 166) #[] #[.pointer (some ⟨b1, 0, none⟩), .pointer (some ⟨b2, 0, none⟩), .pointer (some ⟨b3, 0, none⟩)]) ∧
      (w.heap.size ≤ b1 ∧ w.heap.size ≤ b2 ∧ w.heap.size ≤ b3 ∧ b1 < w'.heap.size ∧ b2 < w'.heap.size ∧ b3 < w'.heap.size) ∧ SeeSp r c f t b1 b2 b3 w' ∧ Up w w' := by
  go_enter Try.func151, Try.ntmps151
  go_wp2
  go_ret
  exact ⟨w.heap.size, w.heap.size + 1, w.heap.size + 2, rfl, by simp <;> omega, ⟨by simp [go_sem], by simp [go_sem], by simp [go_sem], by simp [go_sem]⟩, by (repeat (first | with_reducible exact Up.refl _ | with_reducible refine Up.alloc ?_ _ | with_reducible refine Up.drew ?_ | with_reducible refine Up.drewN ?_ _ | with_reducible refine Up.setCell ?_ (by (try simp) <;> omega) _ | with_reducible assumption | with_reducible refine Up.trans ?_ (by assumption)))⟩
set_option maxRecDepth 100000 in
set_option maxHeartbeats 3200000 in
theorem span_n {r c f t m a : Int} {n : Nat} {b1 b2 b3 : Nat} (hn : n ≤ 65536) (ha0 : 0 ≤ a) (ha1 : a ≤ 65536)
    (hLen : ∀ W, Calls Try.prog 167 #[.agg #[.int .i64 r, .int .i64 c], .int .i64 f, .int .i64 t] W fun e W' => e = .returned (.int .i64 (n : Int)) ∧ Up W W')
    (hW1 : 0 < n → ∀ W, Calls Try.prog 112 #[.agg #[.int .i64 r, .int .i64 c], .int .i64 f] W fun e W' => e = .returned (.int .i64 a) ∧ Up W W')
    (hW2 : 0 < n → ∀ (j : Nat) W, Calls Try.prog 112 #[.agg #[.int .i64 r, .int .i64 c], .int .i64 (a + (j : Int))] W fun e W' => e = .returned (.int .i64 ((a + (j : Int)) % m)) ∧ Up W W') :
    ItN Try.prog 166 #[.pointer (some ⟨b1, 0, none⟩), .pointer (some ⟨b2, 0, none⟩), .pointer (some ⟨b3, 0, none⟩)] (fun x : Int => #[.int .i64 x]) (fun _ => False) (fun _ => True) (SeeSp r c f t b1 b2 b3) (fun pre x _ => pre ++ [x] <+: placesN a m n) (fun xs => xs = placesN a m n) (fun pre => pre <+: placesN a m n) := by
  intro k l J Jx N0 W hJ hJx hV hT hNz hV0 hY h0
  refine callsIn_of_wp Try.func166 rfl trivial ?_ rfl
  simp only [Try.ntmps166, List.size_toArray, List.length_cons, List.length_nil, Nat.reduceAdd, Nat.reduceSub, Array.replicate_succ, Array.replicate_zero, List.push_toArray, List.append_toArray, List.nil_append, List.cons_append]
  obtain ⟨x0, x1, x2, x3⟩ := hV _ _ _ h0
  have zb1 := cell_lt x0
  have zb2 := cell_lt x2
  have zb3 := cell_lt x3
  have HY := Lib.hid hY
  have HJ := Lib.hid hJ
  have HJx := Lib.hid hJx
  have HVV := Lib.hid hV
  have H0 := Lib.hid h0
  have HLen := Lib.hid hLen
  have HW1 := Lib.hid hW1
  have HW2 := Lib.hid hW2
  clear hY hJ hJx hV h0 hT hV0 hNz hLen hW1 hW2
  gi_wp2_with (refine ⟨trivial, (fun h => by simp [Fence.wide] at h), ?_⟩; gi_at_call 167; refine (callsIn_wide.2 (HLen.out _)).mono ?_; rintro e w2 ⟨rfl, hu2⟩)
  have HJ2 := Lib.hid (HJ.out.up H0.out hu2)
  clear hu2 x0 x1 x2 x3
  gi_loopw [5, 10] (fun _ q wr => ∃ j : Nat, j ≤ n ∧ q = .int .i64 (j : Int) ∧ J N0 (placesN a m j) wr) (fun _ q _ => n - (intOf q).toNat)
  case atStart => exact ⟨0, by omega, rfl, HJ2.out⟩
  case round =>
    obtain ⟨j, hj, rfl, hJs⟩ := hrel
    obtain ⟨x0, x1, x2, x3⟩ := HVV.out _ _ _ hJs
    have zb1 := cell_lt x0
    have zb2 := cell_lt x2
    have HJS := Lib.hid hJs
    clear hJs x3
    by_cases hlt : j < n
    · have hpos : 0 < n := by omega
      have hs := placesN_succ a m j
      have hp := placesN_pre a m (show j + 1 ≤ n by omega)
      rw [hs] at hp
      have HSU := Lib.hid hs
      have HP := Lib.hid hp
      have q1 : (j : Int) ≤ 65536 := by omega
      clear hs hp
      have HWR := Lib.hid (show IntKind.i64.wrap (a + (j : Int)) = a + (j : Int) by rw [IntKind.wrap_i64]; omega)
      gi_wp2
      gi_region_with (first
        | (refine ⟨trivial, (fun h => by simp [Fence.wide] at h), ?_⟩; gi_at_call 112; have hq : w8.heap.size = w8.heap.size := rfl; clear hq; rw [HWR.out]; (with_reducible refine (callsIn_wide.2 (HW2.out hpos j _)).mono ?_); rintro e w9 ⟨rfl, hu9⟩; have U9 := Lib.hid (show Up wr w9 by (repeat (first | with_reducible exact Up.refl _ | with_reducible refine Up.alloc ?_ _ | with_reducible refine Up.drew ?_ | with_reducible refine Up.drewN ?_ _ | with_reducible refine Up.setCell ?_ (by (try simp) <;> omega) _ | with_reducible assumption | with_reducible refine Up.trans ?_ (by assumption)))); obtain ⟨fn, tmps, assign, body, hy, hR⟩ := HY.out N0 (placesN a m j) ((a + (j : Int)) % m) w9 (HJ.out.up HJS.out U9.out) HP.out; have HRR := Lib.hid hR; clear hR)
        | (refine ⟨trivial, (fun h => by simp [Fence.wide] at h), ?_⟩; gi_at_call 112; (with_reducible refine (callsIn_wide.2 (HW1.out hpos _)).mono ?_); rintro e w8 ⟨rfl, hu8⟩; have U8 := Lib.hid (show Up wr w8 by (repeat (first | with_reducible exact Up.refl _ | with_reducible refine Up.alloc ?_ _ | with_reducible refine Up.drew ?_ | with_reducible refine Up.drewN ?_ _ | with_reducible refine Up.setCell ?_ (by (try simp) <;> omega) _ | with_reducible assumption | with_reducible refine Up.trans ?_ (by assumption)))); obtain ⟨ca, cf⟩ := U8.out.at_ b1 zb1; have zb8 : b1 < w8.heap.size := (by have := U8.out.size; omega))
        | (refine ⟨fun h => by simp [Fence.wide] at h, ?_⟩; (with_reducible refine HRR.out.mono ?_); rintro e W' hpost; obtain ⟨bb, rfl, hpo2⟩ : ∃ bb, e = .returned (.bool bb) ∧ ((bb = true ∧ J N0 (placesN a m j ++ [(a + (j : Int)) % m]) W') ∨ (bb = false ∧ Jx N0 (placesN a m j ++ [(a + (j : Int)) % m]) W')) := (by rcases hpost with ⟨h1, h2, h3⟩ | ⟨h1, h2, h3⟩; exact ⟨true, h1, .inl ⟨rfl, h2⟩⟩; exact ⟨false, h1, .inr ⟨rfl, h2⟩⟩); have HPO := Lib.hid hpo2; clear hpo2 hpost HRR hy))
      all_goals
        have hpo := HPO.out
        clear HPO
        rcases hpo with ⟨rfl, hJ'⟩ | ⟨rfl, hJ'⟩
        · have HJ' := Lib.hid hJ'
          clear hJ'
          gi_wp2
          go_roundw
          case rel => exact ⟨j + 1, by omega, by go_num, by rw [HSU.out]; exact HJ'.out⟩
          case measure => simp [intOf]; omega
        · have HX := Lib.hid hJ'
          clear hJ'
          gi_wp2
          refine bodyPost_ret (results_none rfl _ _ _) rfl ?_
          exact ⟨⟨_, rfl⟩, .inr ⟨_, HP.out, HX.out⟩⟩
    · obtain rfl : j = n := by omega
      gi_wp2
      go_end0
      first | exact ⟨⟨_, rfl⟩, .inl ⟨_, rfl, HJS.out⟩⟩ | exact ⟨⟨_, rfl⟩, .inl HJS.out⟩ | exact .inl HJS.out
/-- how many places a span has -/
theorem span_good {r c f t : Int} (h : validB r c = true) {n : Nat} (hn : (n : Int) = lenN r c f t) {b1 b2 b3 : Nat} :
    ItN Try.prog 166 #[.pointer (some ⟨b1, 0, none⟩), .pointer (some ⟨b2, 0, none⟩), .pointer (some ⟨b3, 0, none⟩)] (fun x : Int => #[.int .i64 x]) (fun _ => False) (fun _ => True) (SeeSp r c f t b1 b2 b3) (fun pre x _ => pre ++ [x] <+: placesN (f % (r * c)) (r * c) n) (fun xs => xs = placesN (f % (r * c)) (r * c) n) (fun pre => pre <+: placesN (f % (r * c)) (r * c) n) := by
  obtain ⟨h0, h1, h2, h3, h4, h5⟩ := valid_facts h
  have hq := mod_facts f (r * c) h4
  have hl := len_bd (f := f) (t := t) (m := r * c) (len := lenN r c f t) h4 rfl
  refine span_n (by omega) hq.1 (by omega) (fun W => ?_) (fun _ W => wrap_good r c f W h) (fun _ j W => wrap_good r c _ W h)
  have := length_good r c f t W h
  rw [← hn] at this
  exact this
theorem collect_span {r c f t : Int} (h : validB r c = true) {n : Nat} (hn : (n : Int) = lenN r c f t) {b1 b2 b3 : Nat} {w : World} (hs : SeeSp r c f t b1 b2 b3 w) :
    Calls Try.prog 55 #[.func (.func 166) #[] #[.pointer (some ⟨b1, 0, none⟩), .pointer (some ⟨b2, 0, none⟩), .pointer (some ⟨b3, 0, none⟩)]] w fun e w' => ∃ A c', e = .returned (.slice A n c') ∧ OwnI w.heap.size w' A n c' (placesN (f % (r * c)) (r * c) n) ∧ Up w w' := by
  obtain ⟨h0, h1, h2, h3, h4, h5⟩ := valid_facts h
  have hl := len_bd (f := f) (t := t) (m := r * c) (len := lenN r c f t) h4 rfl
  have hk : ∀ {W}, Keep (fun _ => False) w W → ∀ b o, b < w.heap.size → W.cell? ⟨b, o, none⟩ = w.cell? ⟨b, o, none⟩ := fun hk b o hb => (hk.at_ b hb (fun h => h)).1 o
  refine (collect_n (placesN (f % (r * c)) (r * c) n) enters_span (by rw [placesN_len]; omega) (span_good h hn) (fun k h => h.elim) (fun _ _ => trivial) (fun W hK => ⟨(hk hK _ _ (cell_lt hs.1)).trans hs.1, (hk hK _ _ (cell_lt hs.2.1)).trans hs.2.1, (hk hK _ _ (cell_lt hs.2.2.1)).trans hs.2.2.1, (hk hK _ _ (cell_lt hs.2.2.2)).trans hs.2.2.2⟩) (fun _ _ _ h => h) (fun _ h => h)).mono ?_
  rintro e w' ⟨A, c', rfl, h1, h2⟩
  rw [placesN_len] at h1 ⊢
  exact ⟨A, c', rfl, h1, h2.upto (fun i hi => hi.elim)⟩
end Go.Proofs.Ytjokcfenncogkaa
namespace Go.Proofs.Ytjokcfenncogkaa
open Go.RowKit Go.Shelf
set_option linter.unusedVariables false
set_option linter.unusedSimpArgs false
attribute [local go_sem] Oper.semAt_some

/-- how many places there are to the row's end -/
def Spc.rest (X : Spc) (k : Int) : Nat := (X.c - k % X.c).toNat
/-- how many places of one field and one row there are from k on -/
def Spc.rowN (X : Spc) (k : Int) : Nat := (least (fun i => X.isA (k + i)) (X.rest k)).getD (X.rest k)
def rowTo (k : Int) (n : Nat) : List Int := (List.range n).map fun i : Nat => k + (i : Int)
theorem rowTo_succ (k : Int) (n : Nat) : rowTo k (n + 1) = rowTo k n ++ [k + (n : Int)] := by simp [rowTo, List.range_succ]
theorem rowTo_len (k : Int) (n : Nat) : (rowTo k n).length = n := by simp [rowTo]
theorem rowTo_pre (k : Int) {j n : Nat} (h : j ≤ n) : rowTo k j <+: rowTo k n := by
  induction n with
  | zero => obtain rfl : j = 0 := by omega
            exact List.prefix_refl _
  | succ n ih =>
    rcases Nat.lt_or_ge j (n + 1) with hlt | hge
    · rw [rowTo_succ]; exact (ih (by omega)).trans (List.prefix_append _ _)
    · obtain rfl : j = n + 1 := by omega
      exact List.prefix_refl _
def Spc.row (X : Spc) (n : Int) : List Int := rowTo (n % (X.r * X.c)) (X.rowN (n % (X.r * X.c)))
theorem rowN_is (X : Spc) (k : Int) : X.rowN k ≤ X.rest k ∧ (∀ i : Nat, i < X.rowN k → X.isA (k + i) = false) ∧ (X.rowN k < X.rest k → X.isA (k + X.rowN k) = true) := by
  unfold Spc.rowN
  cases h : least (fun i => X.isA (k + i)) (X.rest k) with
  | none => exact ⟨Nat.le_refl _, fun i hi => least_none.1 h i hi, fun h => absurd h (Nat.lt_irrefl _)⟩
  | some d =>
    obtain ⟨h1, h2, h3⟩ := least_some.1 h
    exact ⟨by simp; omega, fun i hi => h3 i hi, fun _ => h2⟩
theorem rest_bd {X : Spc} (ok : X.Ok) {k : Int} (h0 : 0 ≤ k) (h1 : k < X.r * X.c) : 1 ≤ X.rest k ∧ (X.rest k : Int) = X.c - k % X.c ∧ k + (X.rest k : Int) ≤ X.r * X.c := by
  obtain ⟨a0, a1, a2, a3, a4, a5⟩ := valid_facts ok.valid
  have hq := mod_facts k X.c a2
  have h2 : k / X.c < X.r := Int.ediv_lt_of_lt_mul (by omega) h1
  have h3 := Int.mul_ediv_add_emod k X.c
  have h4 : X.c * (k / X.c + 1) ≤ X.c * X.r := Int.mul_le_mul_of_nonneg_left (by omega) (by omega)
  rw [Int.mul_add, Int.mul_one, Int.mul_comm X.c X.r] at h4
  unfold Spc.rest
  omega
theorem row_len {X : Spc} (ok : X.Ok) (n : Int) : (X.row n).length ≤ 132 := by
  obtain ⟨a0, a1, a2, a3, a4, a5⟩ := valid_facts ok.valid
  have hm := mod_facts n (X.r * X.c) a4
  have hb := rest_bd ok hm.1 hm.2
  have hq := mod_facts (n % (X.r * X.c)) X.c a2
  have := (rowN_is X (n % (X.r * X.c))).1
  unfold Spc.row
  rw [rowTo_len]
  omega
/-- the space X, and the boxes with its place and a number -/
def SeeR (X : Spc) (p b b2 : Nat) (n : Int) (W : World) : Prop := ∃ g, SAt W p g X ∧ W.cell? ⟨b, 0, none⟩ = some (.pointer (some ⟨p, 0, none⟩)) ∧ W.cell? ⟨b2, 0, none⟩ = some (.int .i64 n)
theorem enters_row : ∀ args w, (callFunc 138 args).run Try.prog w = .ok (.enter 138 args) w := enters_of Try.func138 (by kernel_rfl) rfl
theorem row_val (v : Option Addr) (n : Int) (w : World) :
    Calls Try.prog 97 #[.pointer v, .int .i64 n] w fun e w' => ∃ b b2, e = .returned (.func (.func 138) #[] #[.pointer (some ⟨b, 0, none⟩), .pointer (some ⟨b2, 0, none⟩)]) ∧ w.heap.size ≤ b ∧ w.heap.size ≤ b2 ∧ b < w'.heap.size ∧ b2 < w'.heap.size ∧ w'.cell? ⟨b, 0, none⟩ = some (.pointer v) ∧ w'.cell? ⟨b2, 0, none⟩ = some (.int .i64 n) ∧ Up w w' := by
  go_enter Try.func97, Try.ntmps97
  go_wp2
  go_ret
  exact ⟨w.heap.size, w.heap.size + 1, rfl, Nat.le_refl _, by simp, by simp <;> omega, by simp, by simp [go_sem], by simp [go_sem], by (repeat (first | with_reducible exact Up.refl _ | with_reducible refine Up.alloc ?_ _ | with_reducible refine Up.drew ?_ | with_reducible refine Up.drewN ?_ _ | with_reducible refine Up.setCell ?_ (by (try simp) <;> omega) _ | with_reducible assumption | with_reducible refine Up.trans ?_ (by assumption)))⟩
set_option maxRecDepth 100000 in
set_option maxHeartbeats 6400000 in
theorem row_it {X : Spc} (ok : X.Ok) {p b b2 : Nat} {n : Int} : ItN Try.prog 138 #[.pointer (some ⟨b, 0, none⟩), .pointer (some ⟨b2, 0, none⟩)] (fun x : Int => #[.int .i64 x]) (fun _ => False) (fun _ => True) (SeeR X p b b2 n) (fun pre x _ => pre ++ [x] <+: X.row n) (fun xs => xs = X.row n) (fun pre => pre <+: X.row n) := by
  intro k l J Jx N0 W hJ hJx hV hT hNz hV0 hY h0
  refine callsIn_of_wp Try.func138 rfl trivial ?_ rfl
  simp only [Try.ntmps138, List.size_toArray, List.length_cons, List.length_nil, Nat.reduceAdd, Nat.reduceSub, Array.replicate_succ, Array.replicate_zero, List.push_toArray, List.append_toArray, List.nil_append, List.cons_append]
  obtain ⟨g, hs, hb, hb2⟩ := hV _ _ _ h0
  have zb := cell_lt hb
  have zb2 := cell_lt hb2
  simp only at zb zb2
  have HSZ := Lib.hid (ssize_is hs)
  have HV := Lib.hid ok.valid
  have HWG := Lib.hid (fun W => wrap_good X.r X.c n W HV.out)
  obtain ⟨a0, a1, a2, a3, a4, a5⟩ := valid_facts ok.valid
  have hm := mod_facts n (X.r * X.c) a4
  have HCG := Lib.hid (fun m W => col_good X.r X.c m W HV.out)
  have HRB := Lib.hid (rest_bd ok hm.1 hm.2)
  have HRN := Lib.hid (rowN_is X (n % (X.r * X.c)))
  have HROW := Lib.hid (show X.row n = rowTo (n % (X.r * X.c)) (X.rowN (n % (X.r * X.c))) from rfl)
  obtain ⟨k0, hk0⟩ : ∃ k0, n % (X.r * X.c) = k0 := ⟨_, rfl⟩
  have hkm : k0 % (X.r * X.c) = k0 := by rw [← hk0]; simp
  have HCK := Lib.hid (fun W => HCG.out k0 W)
  rw [hkm] at HCK
  rw [hk0] at HWG HRB HRN HROW hm
  have hqq := mod_facts k0 X.c a2
  obtain ⟨rn, hrn⟩ : ∃ rn, X.rowN k0 = rn := ⟨_, rfl⟩
  obtain ⟨rs, hrs⟩ : ∃ rs, X.rest k0 = rs := ⟨_, rfl⟩
  rw [hrn] at HRN HROW
  rw [hrs] at HRN HRB
  have HY := Lib.hid hY
  have HJ := Lib.hid hJ
  have HJx := Lib.hid hJx
  have HVV := Lib.hid hV
  have H0 := Lib.hid h0
  have HOK := Lib.hid ok
  clear hY hJ hJx hV h0 hT hNz hs ok hrn hrs hkm hk0
  refine wpIn_wide.2 ?_
  go_wp2_with fail
  refine HSZ.out.mono ?_
  rintro e w1 ⟨rfl, hu1⟩
  have z1 := hu1.size
  have d1 := ((hu1.at_ b2 zb2).1 0).trans hb2
  have zb2' : b2 < w1.heap.size := by omega
  have HU1 := Lib.hid hu1
  clear hb hb2 hu1
  go_wp2_with fail
  refine (HWG.out _).mono ?_
  rintro e w2 ⟨rfl, hu2⟩
  have hbx := hu2.at_ w1.heap.size (by simp)
  have k0x := (hbx.1 0).trans (by simp [go_sem] : _ = some (.int .i64 X.r))
  have k1x := (hbx.1 1).trans (by simp [go_sem] : _ = some (.int .i64 X.c))
  have z2 : w1.heap.size < w2.heap.size := by have := hu2.size; simp at this; omega
  have HU2 := Lib.hid (HU1.out.trans (((Up.refl w1).alloc (.cells #[.int .i64 X.r, .int .i64 X.c] 38)).trans hu2))
  clear hbx hu2 d1
  go_wp2_with fail
  refine wp_region_mix (NS := []) [] rfl (by kernel_rfl) (by kernel_rfl) (by simp) (by simp) ?_
  repeat (first
    | (refine mix_skip rfl rfl ?_; simp only [Act.put, List.setIfInBounds_toArray, List.set_cons_succ, List.set_cons_zero])
    | (refine mix_q rfl rfl rfl (by kernel_rfl) rfl rfl rfl ?_
       apply Exists.intro
       refine ⟨fun Wm => ?_, ?_⟩
       · simp only [fin]
         skip
         intro K hK
         go_wp2_with ((go_at_call 139; (with_reducible refine (HCK.out _).mono ?_); rintro e w' ⟨rfl, hux⟩))
         refine hK _ _ ?_ ?_ ?_
         · (repeat (first | with_reducible exact Up.refl _ | with_reducible refine Up.alloc ?_ _ | with_reducible refine Up.drew ?_ | with_reducible refine Up.drewN ?_ _ | with_reducible refine Up.setCell ?_ (by (try simp) <;> omega) _ | with_reducible assumption | with_reducible refine Up.trans ?_ (by assumption)))
         · rfl
         · exact tmps_at rfl
       simp only [Act.put, List.setIfInBounds_toArray, List.set_cons_succ, List.set_cons_zero]))
  refine mix_nil ?_
  intro w3 hb_w3
  simp only [fin]
  have hu_w3 : Up w2 w3 := by (repeat (first | with_reducible exact Up.refl _ | with_reducible refine Up.alloc ?_ _ | with_reducible refine Up.drew ?_ | with_reducible refine Up.drewN ?_ _ | with_reducible refine Up.setCell ?_ (by (try simp) <;> omega) _ | with_reducible assumption | with_reducible refine Up.trans ?_ (by assumption)))
  have hz_w3 := Up.size hb_w3
  try simp at hz_w3
  obtain ⟨bc_w3_0, bf_w3_0⟩ := hu_w3.at_ (w1.heap.size) (by omega)
  have zb_w3_0 : w1.heap.size < w3.heap.size := by omega
  go_wp2_with fail
  have HJ3 := Lib.hid (HJ.out.up H0.out (HU2.out.trans hb_w3))
  refine (wpIn_wide (n := k)).1 ?_
  simp only [← HRB.out.2.1]
  have hrn1 := HRN.out.1
  have hrs2 : (rs : Int) ≤ 132 := by have := HRB.out.2.1; omega
  have hend := HRB.out.2.2
  gi_loopw [6, 18] (fun _ i wr => ∃ j : Nat, j ≤ rn ∧ i = .int .i64 (j : Int) ∧ J N0 (rowTo k0 j) wr) (fun _ i _ => rs - (intOf i).toNat)
  case atStart => exact ⟨0, by omega, rfl, HJ3.out⟩
  case round =>
    obtain ⟨j, hj, rfl, hJs⟩ := hrel
    obtain ⟨g', hs', hb', hb2'⟩ := HVV.out _ _ _ hJs
    have zb' := cell_lt hb'
    have HJS := Lib.hid hJs
    obtain ⟨d, hd⟩ : ∃ d, X.at_ (k0 + (j : Int)) = d := ⟨_, rfl⟩
    have HAT := Lib.hid (sat_op (k0 + (j : Int)) hs' HOK.out hd)
    have fC := fldC1
    have HIA := Lib.hid (show X.isA (k0 + (j : Int)) = d.at_ by unfold Spc.isA; rw [hd])
    clear hJs hs' hb2' hd
    obtain ⟨dch, da, dfa, dhi, dco, dse⟩ := d
    simp only at HIA HAT
    by_cases hlt : j < rn
    · have hda := HRN.out.2.1 j hlt
      rw [HIA.out] at hda
      subst hda
      have hjs : (j : Int) < (rs : Int) := by omega
      have HPJ := Lib.hid (show rowTo k0 j ++ [k0 + (j : Int)] <+: X.row n by rw [HROW.out, ← rowTo_succ]; exact rowTo_pre k0 (by omega))
      have HSU := Lib.hid (rowTo_succ k0 j)
      gi_wp2_with (refine ⟨trivial, (fun h => by simp [Fence.wide] at h), ?_⟩; gi_at_call 27; (with_reducible refine (callsIn_wide.2 HAT.out).mono ?_); rintro e w9 ⟨rfl, hu9⟩; obtain ⟨fn, tmps, assign, body, hy, hR⟩ := HY.out N0 (rowTo k0 j) (k0 + (j : Int)) w9 (HJ.out.up HJS.out hu9) HPJ.out; have HRR := Lib.hid hR; clear hR hu9; try simp only at hy)
      refine ⟨fun h => by simp [Fence.wide] at h, ?_⟩
      refine HRR.out.mono ?_
      rintro e W' (⟨rfl, hJ', -⟩ | ⟨rfl, hJ', -⟩)
      · have HJ' := Lib.hid hJ'
        clear hJ' hy
        gi_wp2
        go_roundw
        case rel => exact ⟨j + 1, by omega, by go_num, by rw [HSU.out]; exact HJ'.out⟩
        case measure => simp [intOf]; omega
      · have HX := Lib.hid hJ'
        clear hJ' hy
        gi_wp2
        refine bodyPost_ret (results_none rfl _ _ _) rfl ?_
        exact ⟨⟨_, rfl⟩, .inr ⟨_, HPJ.out, HX.out⟩⟩
    · obtain rfl : j = rn := by omega
      by_cases hrs : j < rs
      · have hda := HRN.out.2.2 hrs
        rw [HIA.out] at hda
        subst hda
        have hjs : (j : Int) < (rs : Int) := by omega
        gi_wp2_with (refine ⟨trivial, (fun h => by simp [Fence.wide] at h), ?_⟩; gi_at_call 27; (with_reducible refine (callsIn_wide.2 HAT.out).mono ?_); rintro e w9 ⟨rfl, hu9⟩)
        have HFIN := Lib.hid (show J N0 (X.row n) w9 by rw [HROW.out]; exact HJ.out.up HJS.out hu9)
        clear hu9
        refine ⟨fun _ h => (by cases h), ?_⟩
        gi_wp2
        have hfin := HFIN.out
        refine bodyPost_ret (results_none rfl _ _ _) rfl ?_
        first | exact ⟨⟨_, rfl⟩, .inl ⟨_, rfl, hfin⟩⟩ | exact ⟨⟨_, rfl⟩, .inl hfin⟩ | exact .inl hfin
      · obtain rfl : j = rs := by omega
        gi_wp2
        go_end0
        have hfin : J N0 (X.row n) wr := by rw [HROW.out]; exact HJS.out
        first | exact ⟨⟨_, rfl⟩, .inl ⟨_, rfl, hfin⟩⟩ | exact ⟨⟨_, rfl⟩, .inl hfin⟩ | exact .inl hfin
theorem collect_row {p g b b2 : Nat} {X : Spc} {n : Int} {w : World} (hs : SAt w p g X) (ok : X.Ok) (hb : w.cell? ⟨b, 0, none⟩ = some (.pointer (some ⟨p, 0, none⟩))) (hb2 : w.cell? ⟨b2, 0, none⟩ = some (.int .i64 n)) :
    Calls Try.prog 55 #[.func (.func 138) #[] #[.pointer (some ⟨b, 0, none⟩), .pointer (some ⟨b2, 0, none⟩)]] w fun e w' => ∃ A c, e = .returned (.slice A (X.row n).length c) ∧ OwnI w.heap.size w' A (X.row n).length c (X.row n) ∧ Up w w' := by
  refine (collect_n (X.row n) enters_row (by have := row_len ok n; omega) (row_it ok (p := p) (b := b) (b2 := b2) (n := n)) (fun k h => h.elim) (fun _ _ => trivial) (fun W hk => ⟨g, hs.held hk (fun h => h) (fun h => h), ((hk.at_ b (cell_lt hb) (fun h => h)).1 0).trans hb, ((hk.at_ b2 (cell_lt hb2) (fun h => h)).1 0).trans hb2⟩) (fun _ _ _ h => h) (fun _ h => h)).mono ?_
  rintro e w' ⟨A, c, rfl, h1, h2⟩
  exact ⟨A, c, rfl, h1, h2.upto (fun i hi => hi.elim)⟩
end Go.Proofs.Ytjokcfenncogkaa
namespace Go.Proofs.Ytjokcfenncogkaa
open Go.RowKit
set_option linter.unusedVariables false
set_option linter.unusedSimpArgs false

/-- X with the codes g -/
def chs (X : Spc) (g : Nat → Int) : Spc := { X with L := X.L.mapIdx fun k d => putC d (g k) }
def updG (g : Nat → Int) (k : Nat) (x : Int) : Nat → Int := fun j => if j = k then x else g j
theorem putC_at (d : Cl) (x : Int) : (putC d x).at_ = d.at_ := by unfold putC; split <;> rfl
theorem putC_fa (d : Cl) (x : Int) : (putC d x).fa = d.fa := by unfold putC; split <;> rfl
theorem putC_putC (d : Cl) (x y : Int) : putC (putC d x) y = putC d y := by
  unfold putC
  by_cases h : d.at_ <;> simp [h]
theorem putC_self (d : Cl) : putC d d.ch = d := by unfold putC; split <;> rfl
theorem putC_zero (x : Int) : (putC Cl.zero x).at_ = false := by rw [putC_at]; rfl
theorem chs_len (X : Spc) (g : Nat → Int) : (chs X g).L.length = X.L.length := by simp [chs]
theorem chs_get (X : Spc) (g : Nat → Int) (k : Nat) : (chs X g).L[k]? = X.L[k]?.map fun d => putC d (g k) := by simp [chs, List.getElem?_mapIdx]
theorem chs_wrap (X : Spc) (g : Nat → Int) (n : Int) : (chs X g).wrap n = X.wrap n := rfl
theorem chs_isA (X : Spc) (g : Nat → Int) (n : Int) : (chs X g).isA n = X.isA n := by
  have e : ((chs X g).at_ n) = ((chs X g).L[X.wrap n]?).getD Cl.zero := rfl
  have e2 : (X.at_ n) = (X.L[X.wrap n]?).getD Cl.zero := rfl
  unfold Spc.isA
  rw [e, e2, chs_get]
  cases X.L[X.wrap n]? with
  | none => rfl
  | some d => exact putC_at d _
theorem chs_fa (X : Spc) (g : Nat → Int) (n : Int) : ((chs X g).at_ n).fa = (X.at_ n).fa := by
  have e : ((chs X g).at_ n) = ((chs X g).L[X.wrap n]?).getD Cl.zero := rfl
  have e2 : (X.at_ n) = (X.L[X.wrap n]?).getD Cl.zero := rfl
  rw [e, e2, chs_get]
  cases X.L[X.wrap n]? with
  | none => rfl
  | some d => exact putC_fa d _
theorem chs_at {X : Spc} (ok : X.Ok) (g : Nat → Int) (n : Int) : (chs X g).at_ n = putC (X.at_ n) (g (X.wrap n)) := by
  have e : ((chs X g).at_ n) = ((chs X g).L[X.wrap n]?).getD Cl.zero := rfl
  have e2 : (X.at_ n) = (X.L[X.wrap n]?).getD Cl.zero := rfl
  rw [e, e2, chs_get]
  obtain ⟨d, hd⟩ : ∃ d, X.L[X.wrap n]? = some d := ⟨_, List.getElem?_eq_getElem (ok.wrap n).2⟩
  rw [hd]; rfl
theorem chs_ch {X : Spc} (ok : X.Ok) (g : Nat → Int) (n : Int) (h : X.isA n = false) : ((chs X g).at_ n).ch = g (X.wrap n) := by
  rw [chs_at ok]
  unfold putC
  unfold Spc.isA at h
  rw [h]; rfl
theorem chC_ok {d : Cl} (hw : d.Wf) (hf : d.fit = d) {x : Int} (hx : isB x) : (putC d x).Wf ∧ (putC d x).fit = putC d x := by
  unfold putC
  by_cases h : d.at_ = true
  · rw [if_pos h]; exact ⟨hw, hf⟩
  · rw [if_neg h]
    refine ⟨⟨hx, hw.fa, hw.hi, hw.co, hw.se⟩, ?_⟩
    have h2 : d.at_ = false := by simpa using h
    unfold Cl.fit at hf ⊢
    simp only [h2] at hf ⊢
    have h3 : d.fa = 0 := by rw [← hf]; rfl
    simp [h3]
theorem chs_ok {X : Spc} (ok : X.Ok) {g : Nat → Int} (hg : ∀ k, isB (g k)) : (chs X g).Ok := by
  have hm : ∀ c ∈ (chs X g).L, ∃ (k : Nat) (d : Cl), d ∈ X.L ∧ c = putC d (g k) := by
    intro c hc
    obtain ⟨k, hk, rfl⟩ := List.getElem_of_mem hc
    have h1 := List.getElem?_eq_getElem hk
    rw [chs_get] at h1
    cases hd : X.L[k]? with
    | none => rw [hd] at h1; cases h1
    | some d => rw [hd] at h1; exact ⟨k, d, List.mem_of_getElem? hd, by injection h1 with h1; exact h1.symm⟩
  refine ⟨ok.m2, ok.m5, ok.size, by rw [chs_len]; exact ok.len, fun c hc => ?_, fun c hc => ?_, ok.cur0, by rw [chs_len]; exact ok.cur1⟩
  · obtain ⟨k, d, h1, rfl⟩ := hm c hc
    exact (chC_ok (ok.wf d h1) (ok.fit d h1) (hg k)).1
  · obtain ⟨k, d, h1, rfl⟩ := hm c hc
    exact (chC_ok (ok.wf d h1) (ok.fit d h1) (hg k)).2
theorem chs_put {X : Spc} (ok : X.Ok) (g : Nat → Int) (n x : Int) : (chs X g).put n x = chs X (updG g (X.wrap n) x) := by
  unfold Spc.put
  have hL : (chs X g).L.set ((chs X g).wrap n) (putC ((chs X g).at_ n) x) = (chs X (updG g (X.wrap n) x)).L := by
    refine List.ext_getElem? fun k => ?_
    rw [chs_get, chs_wrap, List.getElem?_set, chs_len]
    by_cases hk : X.wrap n = k
    · subst hk
      rw [if_pos rfl, if_pos (ok.wrap n).2, chs_at ok, putC_putC]
      obtain ⟨d, hd⟩ : ∃ d, X.L[X.wrap n]? = some d := ⟨_, List.getElem?_eq_getElem (ok.wrap n).2⟩
      have e2 : (X.at_ n) = (X.L[X.wrap n]?).getD Cl.zero := rfl
      rw [e2, hd]
      simp [updG]
    · rw [if_neg hk, chs_get]
      have : ¬ k = X.wrap n := fun e => hk e.symm
      simp [updG, this]
  rw [hL]; rfl
theorem chs_self {X : Spc} (ok : X.Ok) : chs X (fun k => (X.at_ (k : Int)).ch) = X := by
  have hL : (chs X (fun k => (X.at_ (k : Int)).ch)).L = X.L := by
    refine List.ext_getElem? fun k => ?_
    rw [chs_get]
    cases hd : X.L[k]? with
    | none => rfl
    | some d =>
      have hk := (List.getElem?_eq_some_iff.1 hd).1
      have := Spc.at_nat ok hk
      rw [hd] at this
      injection this with this
      rw [← this]
      simp [putC_self]
  show (⟨X.model, X.alt, X.r, X.c, (chs X (fun k => (X.at_ (k : Int)).ch)).L, X.cur⟩ : Spc) = X
  rw [hL]
theorem chs_ext {X : Spc} (ok : X.Ok) {g g' : Nat → Int} (h : ∀ k, k < X.L.length → X.isA (k : Int) = false → g k = g' k) : chs X g = chs X g' := by
  have hL : (chs X g).L = (chs X g').L := by
    refine List.ext_getElem? fun k => ?_
    rw [chs_get, chs_get]
    cases hd : X.L[k]? with
    | none => rfl
    | some d =>
      have hk := (List.getElem?_eq_some_iff.1 hd).1
      have h1 := Spc.at_nat ok hk
      rw [hd] at h1
      injection h1 with h1
      simp only [Option.map_some]
      congr 1
      by_cases ha : d.at_ = true
      · unfold putC; rw [if_pos ha, if_pos ha]
      · rw [h k hk (by unfold Spc.isA; rw [← h1]; simpa using ha)]
  show (⟨X.model, X.alt, X.r, X.c, (chs X g).L, X.cur⟩ : Spc) = ⟨X.model, X.alt, X.r, X.c, (chs X g').L, X.cur⟩
  rw [hL]
theorem chs_back (X : Spc) (g : Nat → Int) (n : Int) : (chs X g).back n = X.back n := by
  unfold Spc.back
  rw [chs_len]
  congr 1
  funext d
  exact chs_isA X g _
theorem chs_start (X : Spc) (g : Nat → Int) (n : Int) : (chs X g).start n = X.start n := by
  unfold Spc.start
  rw [chs_back]; rfl
theorem chs_cnt (X : Spc) (g : Nat → Int) (a : Int) : (chs X g).cnt a = X.cnt a := by
  unfold Spc.cnt
  rw [chs_len]
  congr 2
  funext d
  exact chs_isA X g _
theorem chs_places (X : Spc) (g : Nat → Int) (a : Int) : (chs X g).places a = X.places a := by
  unfold Spc.places
  rw [chs_isA, chs_cnt]; rfl
theorem chs_attrs (X : Spc) (g : Nat → Int) : attrsN (chs X g).L = attrsN X.L := by
  unfold attrsN
  congr 1
  refine List.ext_getElem? fun k => ?_
  rw [List.getElem?_map, List.getElem?_map, chs_get]
  cases X.L[k]? with
  | none => rfl
  | some d => simp [cnt, putC_at]
theorem chs_chs (X : Spc) (g g' : Nat → Int) : chs (chs X g) g' = chs X g' := by
  have hL : (chs (chs X g) g').L = (chs X g').L := by
    refine List.ext_getElem? fun k => ?_
    rw [chs_get, chs_get, chs_get]
    cases X.L[k]? with
    | none => rfl
    | some d => simp [putC_putC]
  show (⟨X.model, X.alt, X.r, X.c, (chs (chs X g) g').L, X.cur⟩ : Spc) = ⟨X.model, X.alt, X.r, X.c, (chs X g').L, X.cur⟩
  rw [hL]
end Go.Proofs.Ytjokcfenncogkaa
namespace Go.Proofs.Ytjokcfenncogkaa
open Go.RowKit Go.Shelf
set_option linter.unusedVariables false
set_option linter.unusedSimpArgs false

/-- the places from n on to its field's end, or the screen's -/
def Spc.restL (X : Spc) (n : Int) : List Int :=
  if X.start n < 0 then placesN (n % (X.r * X.c)) (X.r * X.c) (X.r * X.c - n % (X.r * X.c)).toNat
  else (X.places (X.start n)).drop ((X.places (X.start n)).idxOf (n % (X.r * X.c)))
def Spc.roundL (X : Spc) (n : Int) : List Int := if 0 < attrsN X.L then X.restL n else placesN (n % (X.r * X.c)) (X.r * X.c) X.L.length
theorem idxVal_mem {L : List Int} {x : Int} (h : x ∈ L) : idxVal L x = (L.idxOf x : Int) ∧ L.idxOf x < L.length := by
  have h1 := List.idxOf_lt_length_of_mem h
  refine ⟨?_, h1⟩
  have h2 : L.idxOf? x = some (L.idxOf x) := by
    rw [List.idxOf?, List.findIdx?_eq_some_iff_findIdx_eq]; exact ⟨h1, rfl⟩
  unfold idxVal
  rw [h2]
theorem place_mem {X : Spc} (ok : X.Ok) {n : Int} (h : X.isA n = false) (hs : 0 ≤ X.start n) : n % (X.r * X.c) ∈ X.places (X.start n) := by
  have hp : 0 < attrsN X.L := by
    by_cases hh : 0 < attrsN X.L
    · exact hh
    · rw [start_none ok n hh] at hs; omega
  obtain ⟨d, h1, h2, h3, h4⟩ := back_some ok n hp
  have hd : d ≠ 0 := by
    rintro rfl
    rw [show n - ((0 : Nat) : Int) = n by simp, h] at h3
    cases h3
  have hst := start_some h1
  rw [hst, places_emod]
  obtain ⟨c1, c2, c3⟩ := cnt_is ok h3
  have hc : d - 1 < X.cnt (n - d) := by
    rcases Nat.lt_or_ge (d - 1) (X.cnt (n - d)) with h5 | h5
    · exact h5
    · exfalso
      have h6 : X.isA (n - d + 1 + (X.cnt (n - d) : Int)) = false := by
        rw [show n - (d : Int) + 1 + (X.cnt (n - d) : Int) = n - ((d - 1 - X.cnt (n - d) : Nat) : Int) by omega]
        exact h4 _ (by omega)
      rw [c2] at h6; cases h6
  unfold Spc.places
  rw [if_pos h3]
  unfold stepsL
  rw [List.mem_map]
  exact ⟨d - 1, by simpa using hc, by congr 1; omega⟩
theorem restL_len {X : Spc} (ok : X.Ok) (n : Int) : (X.restL n).length ≤ 3564 := by
  have hp := Spc.pos ok
  have hl := ok.len
  have hsm := ok.small
  have h1 := Int.emod_nonneg n (show X.r * X.c ≠ 0 by omega)
  unfold Spc.restL
  split
  · rw [placesN_len]; omega
  · have := places_len ok (X.start n)
    rw [List.length_drop]; omega
theorem collect_places {p g b b2 : Nat} {X : Spc} {a : Int} {w : World} (hs : SAt w p g X) (ok : X.Ok) (hb : w.cell? ⟨b, 0, none⟩ = some (.pointer (some ⟨p, 0, none⟩))) (hb2 : w.cell? ⟨b2, 0, none⟩ = some (.int .i64 a)) (hf2 : w.frozen? ⟨b2, 0, none⟩ = false) (hp : p ≠ b2) (hg : g ≠ b2) :
    Calls Try.prog 55 #[.func (.func 130) #[] #[.pointer (some ⟨b, 0, none⟩), .pointer (some ⟨b2, 0, none⟩)]] w fun e w' => ∃ A c, e = .returned (.slice A (X.places a).length c) ∧ OwnI w.heap.size w' A (X.places a).length c (X.places a) ∧ Keep (fun k => k = b2) w w' := by
  have hbb : b ≠ b2 := fun e => by subst e; rw [hb] at hb2; cases hb2
  refine (collect_n (X.places a) enters_places (by have := places_len ok a; have := ok.small; omega) (places_it ok (p := p) (b := b) (b2 := b2) (a := a)) (fun k h => by subst h; exact cell_lt hb2) (fun W hu => ⟨((hu.at_ b2 (cell_lt hb2)).1 0).trans hb2, ((hu.at_ b2 (cell_lt hb2)).2 0).trans hf2⟩) (fun W hk => ⟨g, X, hs.held hk hp hg, ok, Alike.refl X, ((hk.at_ b (cell_lt hb) hbb).1 0).trans hb⟩) (fun _ _ _ h => h) (fun _ h => h))
/-- a slice of numbers that lies in new memory -/
def NewI (w : World) (w' : World) (L : List Int) (A : Option Addr) (c : Nat) : Prop := Reads w' w'.heap.size 1 A L.length (ns L) ∧ (∀ p, A = some p → w.heap.size ≤ p.block) ∧ L.length ≤ c ∧ c ≤ maxLen
theorem NewI.of_own {w w' : World} {L : List Int} {A : Option Addr} {n c : Nat} (h : OwnI w.heap.size w' A n c L) : NewI w w' L A c := by
  have := h.len
  subst this
  exact ⟨h.reads, fun p hp => (h.at_ p hp).1, h.le, h.mx⟩
set_option maxRecDepth 100000 in
set_option maxHeartbeats 3200000 in
theorem rest_is {p g : Nat} {X : Spc} {n : Int} {w : World} (hs : SAt w p g X) (ok : X.Ok) (ho : X.isA n = false) :
    Calls Try.prog 143 #[.pointer (some ⟨p, 0, none⟩), .int .i64 n] w fun e w' => ∃ A c, e = .returned (.slice A (X.restL n).length c) ∧ NewI w w' (X.restL n) A c ∧ Up w w' := by
  have HS := Lib.hid hs
  have HOK := Lib.hid ok
  have HV := Lib.hid ok.valid
  have hm0 := Spc.pos ok
  have hln := ok.len
  have hsm := ok.small
  have HSZ := Lib.hid (fun W (h : SAt W p g X) => ssize_is h)
  have HWG := Lib.hid (fun W => wrap_good X.r X.c n W HV.out)
  have hk0 := Int.emod_nonneg n (show X.r * X.c ≠ 0 by omega)
  have hk1 := Int.emod_lt_of_pos n hm0
  obtain ⟨k, hk⟩ : ∃ k, n % (X.r * X.c) = k := ⟨_, rfl⟩
  have hkk : k % (X.r * X.c) = k := by rw [← hk]; simp
  have HST := Lib.hid (fun W (h : SAt W p g X) => fstart_is k h ok)
  have hse : X.start k = X.start n := by rw [← hk, start_emod]
  rw [hse] at HST
  have hRL : X.restL n = if X.start n < 0 then placesN k (X.r * X.c) (X.r * X.c - k).toNat else (X.places (X.start n)).drop ((X.places (X.start n)).idxOf k) := by unfold Spc.restL; rw [hk]
  have hlenN : ((X.r * X.c - k).toNat : Int) = lenN X.r X.c k 0 := by
    unfold lenN
    rcases (show k = 0 ∨ 0 < k by omega) with rfl | h0
    · rw [show (0 : Int) - 0 = 0 by omega, Int.zero_emod, if_pos rfl]; omega
    · have h1 : (0 - k) % (X.r * X.c) = X.r * X.c - k := by
        rw [← Int.add_emod_right, show 0 - k + X.r * X.c = X.r * X.c - k by omega, Int.emod_eq_of_lt (by omega) (by omega)]
      rw [h1, if_neg (by omega)]; omega
  have HCS := Lib.hid (fun W b1 b2 b3 (h : SeeSp X.r X.c k 0 b1 b2 b3 W) => collect_span HV.out hlenN h)
  rw [hkk] at HCS
  rw [hk] at HWG hk0 hk1
  have HPL := Lib.hid (fun (h : 0 ≤ X.start n) => idxVal_mem (place_mem ok ho h))
  rw [hk] at HPL
  have hsr := start_range ok n
  have hpl := places_len ok (X.start n)
  rw [hRL]
  generalize X.start n = a at *
  clear hRL hs ok ho hk hkk hse
  rcases hsr with rfl | ⟨hp0, hp1⟩
  · rw [if_pos (by omega)]
    go_enter Try.func143, Try.ntmps143
    go_wp2_with fail
    refine (HSZ.out _ HS.out).mono ?_
    rintro e w1 ⟨rfl, hu1⟩
    have HU1 := Lib.hid hu1
    clear hu1
    go_wp2_with fail
    refine (HWG.out _).mono ?_
    rintro e w2 ⟨rfl, hu2⟩
    have HU2 := Lib.hid (HU1.out.trans hu2)
    clear hu2
    go_wp2_with fail
    refine (HST.out _ (HS.out.up HU2.out)).mono ?_
    rintro e w3 ⟨rfl, hu3⟩
    have HU3 := Lib.hid (HU2.out.trans hu3)
    clear hu3
    go_wp2_with fail
    refine (HSZ.out _ (HS.out.up HU3.out)).mono ?_
    rintro e w4 ⟨rfl, hu4⟩
    have HU4 := Lib.hid (HU3.out.trans hu4)
    clear hu4
    go_wp2_with fail
    refine (spann_val _ _ _ _ _).mono ?_
    rintro e w5 ⟨b1, b2, b3, rfl, -, hsee, hu5⟩
    have HC := Lib.hid (HCS.out _ _ _ _ hsee)
    have HU5 := Lib.hid (HU4.out.trans hu5)
    clear hsee hu5
    go_wp2_with fail
    refine HC.out.mono ?_
    rintro e w6 ⟨A, c, rfl, hown, hu6⟩
    have HO := Lib.hid hown
    have HU6 := Lib.hid (HU5.out.trans hu6)
    clear hown hu6
    go_wp2_with fail
    go_ret
    rw [placesN_len]
    exact ⟨A, c, rfl, NewI.of_own (HO.out.low HU5.out.size), HU6.out⟩
  · rw [if_neg (by omega)]
    obtain ⟨hix, hil⟩ := HPL.out hp0
    have HCP := Lib.hid (fun W b b2 (h1 : SAt W p g X) h2 h3 h4 h5 h6 => collect_places (b := b) (b2 := b2) (a := a) h1 HOK.out h2 h3 h4 h5 h6)
    obtain ⟨P, hP⟩ : ∃ P, X.places a = P := ⟨_, rfl⟩
    rw [hP] at HCP hix hil hpl ⊢
    obtain ⟨i, hi⟩ : ∃ i, P.idxOf k = i := ⟨_, rfl⟩
    rw [hi] at hix hil ⊢
    obtain ⟨np, hnp⟩ : ∃ np, P.length = np := ⟨_, rfl⟩
    have HNP := Lib.hid hnp
    have HIX := Lib.hid hix
    rw [hnp] at hil hpl
    have hna : ¬ a < 0 := by omega
    have hin : (i : Int) ≤ (np : Int) := by omega
    clear hP hi hnp hix HPL HCS
    go_enter Try.func143, Try.ntmps143
    go_wp2_with fail
    refine (HSZ.out _ HS.out).mono ?_
    rintro e w1 ⟨rfl, hu1⟩
    have HU1 := Lib.hid hu1
    clear hu1
    go_wp2_with fail
    refine (HWG.out _).mono ?_
    rintro e w2 ⟨rfl, hu2⟩
    have HU2 := Lib.hid (HU1.out.trans hu2)
    clear hu2
    go_wp2_with fail
    refine (HST.out _ (HS.out.up HU2.out)).mono ?_
    rintro e w3 ⟨rfl, hu3⟩
    have HU3 := Lib.hid (HU2.out.trans hu3)
    clear hu3
    go_wp2_with fail
    refine (places_val _ _ _).mono ?_
    rintro e w4 ⟨b4, b5, rfl, hb4, hb5, hz4, hc4, hc5, hf5, hu4⟩
    have hzs := (HS.out.up HU3.out).lt
    have hzg := (HS.out.up HU3.out).cells.2.1
    have HCC := Lib.hid (HCP.out _ _ _ ((HS.out.up HU3.out).up hu4) hc4 hc5 hf5 (by omega) (by omega))
    have HU4 := Lib.hid (HU3.out.trans hu4)
    have HZ4 := Lib.hid (show w3.heap.size ≤ b5 by omega)
    clear hb4 hb5 hz4 hc4 hc5 hf5 hu4 hzs hzg
    go_wp2_with fail
    refine HCC.out.mono ?_
    rintro e w5 ⟨A5, c5, rfl, hown5, hk5⟩
    have HO5 := Lib.hid hown5
    have HU5 := Lib.hid (HU4.out.keep hk5 (fun i hi => by have h1 := HZ4.out; have h2 := HU3.out.size; omega))
    have HZ5 := Lib.hid HU4.out.size
    have hle5 := hown5.le
    have hc5 : (c5 : Int) ≤ 9223372036854775807 := by have := hown5.mx; simp [maxLen] at this; omega
    have HI5 := Lib.hid (show Calls Try.prog 60 #[.slice A5 P.length c5, .int .i64 k] w5 (fun e w' => e = .returned (.int .i64 (idxVal P k)) ∧ Up w5 w') from index_i A5 P.length c5 P k w5 hown5.reads rfl (by rw [HNP.out]; omega))
    rw [HIX.out] at HI5
    rw [HNP.out] at hle5 HI5 ⊢
    clear hown5 hk5 HCC
    go_wp2_with fail
    refine HI5.out.mono ?_
    rintro e w6 ⟨rfl, hu6⟩
    have HU6 := Lib.hid (HU5.out.trans hu6)
    have HO6 := Lib.hid (HO5.out.up hu6)
    clear hu6
    go_wp2_with fail
    go_ret
    have hcut := (HO6.out.reads).cut (k := i) (cap := c5) (by rw [HNP.out]; omega) (by rw [HNP.out]; omega)
    rw [if_neg (by omega), Nat.mul_one] at hcut
    have hd : (ns P).drop i = ns (P.drop i) := by unfold ns; rw [List.map_drop]
    have hl : P.length - i = (P.drop i).length := by rw [List.length_drop]
    rw [hd, hl] at hcut
    have hld : (P.drop i).length = np - i := by rw [List.length_drop, HNP.out]
    refine ⟨A5.map (·.add i), c5 - i, by rw [hld]; rfl, ⟨hcut, fun pp hpp => ?_, by omega, by have := HO6.out.mx; omega⟩, HU6.out⟩
    cases A5 with
    | none => cases hpp
    | some q5 =>
      simp only [Option.map_some] at hpp
      injection hpp with hpp
      have h1 := (HO5.out.at_ q5 rfl).1
      have h2 := HZ5.out
      have h3 : (q5.add i).block = q5.block := by unfold Addr.add; split <;> rfl
      rw [← hpp, h3]; omega
theorem round_is14 {p g : Nat} {X : Spc} {n : Int} {w : World} (hs : SAt w p g X) (ok : X.Ok) (ho : X.isA n = false) :
    Calls Try.prog 140 #[.pointer (some ⟨p, 0, none⟩), .int .i64 n] w fun e w' => ∃ A c, e = .returned (.slice A (X.roundL n).length c) ∧ NewI w w' (X.roundL n) A c ∧ Up w w' := by
  have HS := Lib.hid hs
  have HV := Lib.hid ok.valid
  have hm0 := Spc.pos ok
  have hln := ok.len
  have hsm := ok.small
  have HF := Lib.hid (sform_is hs)
  have HR := Lib.hid (rest_is (n := n) hs ok ho)
  have HSZ := Lib.hid (ssize_is hs)
  have hlenN : ((X.L.length : Nat) : Int) = lenN X.r X.c n n := by
    unfold lenN
    rw [show n - n = 0 by omega, Int.zero_emod, if_pos rfl]; exact hln
  have HCS := Lib.hid (fun W b1 b2 b3 (h : SeeSp X.r X.c n n b1 b2 b3 W) => collect_span HV.out hlenN h)
  have hRL : X.roundL n = if 0 < attrsN X.L then X.restL n else placesN (n % (X.r * X.c)) (X.r * X.c) X.L.length := rfl
  rw [hRL]
  clear hRL hs ok ho
  by_cases hfm : 0 < attrsN X.L
  · rw [if_pos hfm]
    rw [decide_eq_true hfm] at HF
    clear hfm
    go_enter Try.func140, Try.ntmps140
    go_wp2_with fail
    refine HF.out.mono ?_
    rintro e w1 ⟨rfl, rfl⟩
    go_wp2_with fail
    refine HR.out.mono ?_
    rintro e w2 ⟨A, c, rfl, hn2, hu2⟩
    have HN := Lib.hid hn2
    have HU := Lib.hid hu2
    clear hn2 hu2
    go_wp2_with fail
    go_ret
    exact ⟨A, c, rfl, HN.out, HU.out⟩
  · rw [if_neg hfm]
    rw [decide_eq_false hfm] at HF
    clear hfm
    go_enter Try.func140, Try.ntmps140
    go_wp2_with fail
    refine HF.out.mono ?_
    rintro e w1 ⟨rfl, rfl⟩
    go_wp2_with fail
    refine HSZ.out.mono ?_
    rintro e w2 ⟨rfl, hu2⟩
    have HU2 := Lib.hid hu2
    clear hu2
    go_wp2_with fail
    refine (spann_val _ _ _ _ _).mono ?_
    rintro e w5 ⟨b1, b2, b3, rfl, -, hsee, hu5⟩
    have HC := Lib.hid (HCS.out _ _ _ _ hsee)
    have HU5 := Lib.hid (HU2.out.trans hu5)
    clear hsee hu5
    go_wp2_with fail
    refine HC.out.mono ?_
    rintro e w6 ⟨A, c, rfl, hown, hu6⟩
    have HO := Lib.hid hown
    have HU6 := Lib.hid (HU5.out.trans hu6)
    clear hown hu6
    go_wp2_with fail
    go_ret
    rw [placesN_len]
    exact ⟨A, c, rfl, NewI.of_own (HO.out.low HU5.out.size), HU6.out⟩
end Go.Proofs.Ytjokcfenncogkaa
namespace Go.Proofs.Ytjokcfenncogkaa
open Go.RowKit
set_option linter.unusedVariables false
set_option linter.unusedSimpArgs false

/-- places of X, no two alike, none of them an attribute -/
structure GoodL (X : Spc) (l : List Int) : Prop where
  nd : ∀ i j, i < j → j < l.length → l.getD i 0 ≠ l.getD j 0
  bd : ∀ x ∈ l, 0 ≤ x ∧ x < X.r * X.c
  na : ∀ x ∈ l, X.isA x = false
theorem getD_map_range {f : Nat → Int} {n i : Nat} (h : i < n) : ((List.range n).map f).getD i 0 = f i := by
  rw [List.getD, List.getElem?_map, List.getElem?_range h]; rfl
theorem good_row {X : Spc} (ok : X.Ok) (n : Int) : GoodL X (X.row n) := by
  have hp := Spc.pos ok
  have hk0 := Int.emod_nonneg n (show X.r * X.c ≠ 0 by omega)
  have hk1 := Int.emod_lt_of_pos n hp
  obtain ⟨h1, h2, h3⟩ := rowN_is X (n % (X.r * X.c))
  obtain ⟨b1, b2, b3⟩ := rest_bd ok hk0 hk1
  unfold Spc.row
  generalize n % (X.r * X.c) = k at *
  generalize X.rowN k = rn at *
  refine ⟨fun i j hij hj => ?_, fun x hx => ?_, fun x hx => ?_⟩
  · rw [rowTo_len] at hj
    unfold rowTo
    rw [getD_map_range (by omega), getD_map_range hj]; omega
  · unfold rowTo at hx
    rw [List.mem_map] at hx
    obtain ⟨i, hi, rfl⟩ := hx
    simp at hi
    omega
  · unfold rowTo at hx
    rw [List.mem_map] at hx
    obtain ⟨i, hi, rfl⟩ := hx
    simp at hi
    exact h2 i hi
theorem no_attr {X : Spc} (ok : X.Ok) (h : ¬ 0 < attrsN X.L) (n : Int) : X.isA n = false := by
  obtain ⟨e1, h1⟩ := ok.wrap n
  rw [← Spc.isA_emod, e1, Spc.isA_nat ok h1]
  cases hh : isAt X.L (X.wrap n)
  · rfl
  · exact absurd (attrsN_pos.2 ⟨_, h1, hh⟩) h
theorem good_placesN {X : Spc} (ok : X.Ok) {k : Int} {m : Nat} (k0 : 0 ≤ k) (k1 : k < X.r * X.c) (hm : (m : Int) ≤ X.r * X.c) (hna : ∀ n, X.isA n = false) : GoodL X (placesN k (X.r * X.c) m) := by
  have hp := Spc.pos ok
  refine ⟨fun i j hij hj => ?_, fun x hx => ?_, fun x _ => hna x⟩
  · rw [placesN_len] at hj
    unfold placesN
    rw [getD_map_range (by omega), getD_map_range hj, emod_near (by omega) (by omega), emod_near (by omega) (by omega)]
    split <;> split <;> omega
  · unfold placesN at hx
    rw [List.mem_map] at hx
    obtain ⟨i, _, rfl⟩ := hx
    exact ⟨Int.emod_nonneg _ (by omega), Int.emod_lt_of_pos _ hp⟩
theorem good_places {X : Spc} (ok : X.Ok) (a : Int) : GoodL X (X.places a) := by
  have hp := Spc.pos ok
  have hl := ok.len
  rw [← places_emod]
  have ha0 := Int.emod_nonneg a (show X.r * X.c ≠ 0 by omega)
  have ha1 := Int.emod_lt_of_pos a hp
  generalize a % (X.r * X.c) = a at *
  unfold Spc.places
  split
  · rename_i hA
    obtain ⟨c1, c2, c3⟩ := cnt_is ok hA
    refine ⟨fun i j hij hj => ?_, fun x hx => ?_, fun x hx => ?_⟩
    · rw [stepsL_len] at hj
      unfold stepsL
      rw [getD_map_range (by omega), getD_map_range hj, emod_near (by omega) (by omega), emod_near (by omega) (by omega)]
      split <;> split <;> omega
    · unfold stepsL at hx
      rw [List.mem_map] at hx
      obtain ⟨i, _, rfl⟩ := hx
      exact ⟨Int.emod_nonneg _ (by omega), Int.emod_lt_of_pos _ hp⟩
    · unfold stepsL at hx
      rw [List.mem_map] at hx
      obtain ⟨i, hi, rfl⟩ := hx
      simp at hi
      rw [Spc.isA_emod]; exact c3 i hi
  · exact ⟨fun i j _ hj => (by simp at hj), fun x hx => (by cases hx), fun x hx => (by cases hx)⟩
theorem good_drop {X : Spc} {l : List Int} (h : GoodL X l) (i : Nat) : GoodL X (l.drop i) := by
  refine ⟨fun a b hab hb => ?_, fun x hx => h.bd x (List.mem_of_mem_drop hx), fun x hx => h.na x (List.mem_of_mem_drop hx)⟩
  rw [List.length_drop] at hb
  have := h.nd (i + a) (i + b) (by omega) (by omega)
  rw [List.getD, List.getD] at this ⊢
  rw [List.getElem?_drop, List.getElem?_drop]; exact this
theorem start_neg {X : Spc} (ok : X.Ok) (n : Int) (h : X.start n < 0) : ¬ 0 < attrsN X.L := by
  intro hp
  obtain ⟨d, h1, _⟩ := back_some ok n hp
  rw [start_some h1] at h
  have := Int.emod_nonneg (n - d) (show X.r * X.c ≠ 0 by have := Spc.pos ok; omega)
  omega
theorem good_rest {X : Spc} (ok : X.Ok) (n : Int) : GoodL X (X.restL n) := by
  have hp := Spc.pos ok
  have hk0 := Int.emod_nonneg n (show X.r * X.c ≠ 0 by omega)
  have hk1 := Int.emod_lt_of_pos n hp
  unfold Spc.restL
  split
  · rename_i h
    exact good_placesN ok hk0 hk1 (by omega) (no_attr ok (start_neg ok n h))
  · exact good_drop (good_places ok _) _
theorem good_round {X : Spc} (ok : X.Ok) (n : Int) : GoodL X (X.roundL n) := by
  have hp := Spc.pos ok
  have hl := ok.len
  unfold Spc.roundL
  split
  · exact good_rest ok n
  · rename_i h
    exact good_placesN ok (Int.emod_nonneg n (by omega)) (Int.emod_lt_of_pos n hp) (by omega) (no_attr ok h)
/-- an element's number -/
theorem idxOf_at {l : List Int} (h : ∀ i j, i < j → j < l.length → l.getD i 0 ≠ l.getD j 0) {i : Nat} (hi : i < l.length) : l.idxOf (l.getD i 0) = i := by
  have h1 := (idxVal_mem (at_mem hi)).2
  have h2 : l.getD (l.idxOf (l.getD i 0)) 0 = l.getD i 0 := by
    rw [List.getD, List.getElem?_eq_getElem h1]
    exact List.getElem_idxOf h1
  rcases Nat.lt_trichotomy (l.idxOf (l.getD i 0)) i with h3 | h3 | h3
  · exact absurd h2 (h _ _ h3 hi)
  · exact h3
  · exact absurd h2.symm (h _ _ h3 h1)
theorem getD_idxOf {l : List Int} {x : Int} (h : l.idxOf x < l.length) : l.getD (l.idxOf x) 0 = x := by
  rw [List.getD, List.getElem?_eq_getElem h]
  exact List.getElem_idxOf h
/-- the codes of a screen -/
def Spc.ch0 (X : Spc) : Nat → Int := fun k => (X.at_ (k : Int)).ch
theorem ch0_is {X : Spc} (ok : X.Ok) : chs X X.ch0 = X := chs_self ok
theorem ch0_b {X : Spc} (ok : X.Ok) (k : Nat) : isB (X.ch0 k) := (ok.at_wf _).ch
theorem wrap_at {X : Spc} {x : Int} (h0 : 0 ≤ x) (h1 : x < X.r * X.c) : ((X.wrap x : Nat) : Int) = x := by
  unfold Spc.wrap
  rw [Int.emod_eq_of_lt h0 h1]; omega
/-- up to j of l are null -/
def endG (g : Nat → Int) (l : List Int) : Nat → Int := fun k => if (k : Int) ∈ l then 0 else g k
theorem endG_step {X : Spc} {l : List Int} (hl : GoodL X l) (g : Nat → Int) {j : Nat} (hj : j < l.length) : updG (endG g (l.take j)) (X.wrap (l.getD j 0)) 0 = endG g (l.take (j + 1)) := by
  have hb := hl.bd _ (at_mem hj)
  have hw := wrap_at hb.1 hb.2
  have e : l.take (j + 1) = l.take j ++ [l.getD j 0] := by
    rw [List.take_succ_eq_append_getElem hj, List.getD, List.getElem?_eq_getElem hj]; rfl
  funext k
  unfold updG endG
  rw [e]
  by_cases h : k = X.wrap (l.getD j 0)
  · rw [if_pos h, if_pos (by rw [h, hw]; simp)]
  · have h2 : ¬ (k : Int) = l.getD j 0 := fun e => h (by omega)
    rw [if_neg h]
    simp only [List.mem_append, List.mem_singleton, h2, or_false]
/-- the first j of l have what the next ones had, the last one null -/
def delG (g : Nat → Int) (l : List Int) (j : Nat) : Nat → Int := fun k => if l.idxOf (k : Int) < j then (if l.idxOf (k : Int) + 1 < l.length then g (l.getD (l.idxOf (k : Int) + 1) 0).toNat else 0) else g k
theorem delG_zero (g : Nat → Int) (l : List Int) : delG g l 0 = g := by funext k; simp [delG]
theorem delG_step {X : Spc} {l : List Int} (hl : GoodL X l) (g : Nat → Int) {j : Nat} (hj : j < l.length) {v : Int} (hv : v = if j + 1 < l.length then g (l.getD (j + 1) 0).toNat else 0) : updG (delG g l j) (X.wrap (l.getD j 0)) v = delG g l (j + 1) := by
  have hb := hl.bd _ (at_mem hj)
  have hw := wrap_at hb.1 hb.2
  funext k
  unfold updG delG
  by_cases h : k = X.wrap (l.getD j 0)
  · have h1 : l.idxOf (k : Int) = j := by rw [h, hw]; exact idxOf_at hl.nd hj
    rw [if_pos h, h1, if_pos (by omega), hv]
  · have h1 : l.idxOf (k : Int) ≠ j := fun e => h (by
      have := getD_idxOf (l := l) (x := (k : Int)) (by omega)
      rw [e] at this; omega)
    rw [if_neg h]
    by_cases h2 : l.idxOf (k : Int) < j
    · rw [if_pos h2, if_pos (show l.idxOf (k : Int) < j + 1 by omega)]
    · rw [if_neg h2, if_neg (show ¬ l.idxOf (k : Int) < j + 1 by omega)]
theorem delG_next {X : Spc} {l : List Int} (hl : GoodL X l) (g : Nat → Int) {j : Nat} (hj : j + 1 < l.length) : delG g l j (X.wrap (l.getD (j + 1) 0)) = g (l.getD (j + 1) 0).toNat := by
  have hb := hl.bd _ (at_mem hj)
  have hw := wrap_at hb.1 hb.2
  unfold delG
  rw [hw, idxOf_at hl.nd hj, if_neg (by omega)]
  congr 1
  omega
/-- those of l behind i up to e have what the ones ahead had -/
def insG (g : Nat → Int) (l : List Int) (i e : Nat) : Nat → Int := fun k => if i < l.idxOf (k : Int) ∧ l.idxOf (k : Int) ≤ e then g (l.getD (l.idxOf (k : Int) - 1) 0).toNat else g k
theorem insG_start (g : Nat → Int) (l : List Int) (e : Nat) : insG g l e e = g := by
  funext k
  unfold insG
  rw [if_neg (by omega)]
theorem insG_ahead {X : Spc} {l : List Int} (hl : GoodL X l) (g : Nat → Int) {i e : Nat} (hi : i < l.length) (h0 : 0 < i) : insG g l i e (X.wrap (l.getD (i - 1) 0)) = g (l.getD (i - 1) 0).toNat := by
  have hb := hl.bd _ (at_mem (show i - 1 < l.length by omega))
  have hw := wrap_at hb.1 hb.2
  unfold insG
  rw [hw, idxOf_at hl.nd (by omega), if_neg (by omega)]
  congr 1
  omega
theorem insG_step {X : Spc} {l : List Int} (hl : GoodL X l) (g : Nat → Int) {i e : Nat} (he : e < l.length) (hi : i ≤ e) (h0 : 0 < i) {v : Int} (hv : v = g (l.getD (i - 1) 0).toNat) : updG (insG g l i e) (X.wrap (l.getD i 0)) v = insG g l (i - 1) e := by
  have hj : i < l.length := by omega
  have hb := hl.bd _ (at_mem hj)
  have hw := wrap_at hb.1 hb.2
  funext k
  unfold updG insG
  by_cases h : k = X.wrap (l.getD i 0)
  · have h1 : l.idxOf (k : Int) = i := by rw [h, hw]; exact idxOf_at hl.nd hj
    rw [if_pos h, h1, if_pos ⟨by omega, hi⟩, hv]
  · have h1 : l.idxOf (k : Int) ≠ i := fun e => h (by
      have := getD_idxOf (l := l) (x := (k : Int)) (by omega)
      rw [e] at this; omega)
    rw [if_neg h]
    by_cases h2 : i < l.idxOf (k : Int) ∧ l.idxOf (k : Int) ≤ e
    · rw [if_pos h2, if_pos ⟨by omega, h2.2⟩]
    · rw [if_neg h2, if_neg (by omega)]
end Go.Proofs.Ytjokcfenncogkaa
namespace Go.Proofs.Ytjokcfenncogkaa
open Go.RowKit
set_option linter.unusedVariables false
set_option linter.unusedSimpArgs false

theorem NewI.cell {w w1 : World} {L : List Int} {A : Option Addr} {c : Nat} (h : NewI w w1 L A c) (h0 : 0 < L.length) : ∃ b off, A = some ⟨b, off, none⟩ ∧ w.heap.size ≤ b ∧ b < w1.heap.size ∧ ∀ t, t < L.length → w1.cell? ⟨b, off + t, none⟩ = some (.int .i64 (L.getD t 0)) := by
  obtain ⟨b, off, rfl, hb⟩ := h.1.form h0
  refine ⟨b, off, rfl, h.2.1 _ rfl, hb, fun t ht => ?_⟩
  obtain ⟨_, u, hu, hcu⟩ := h.1.at_ (j := t) (by omega)
  unfold ns at hu
  rw [List.getElem?_map, List.getElem?_eq_getElem ht] at hu
  rw [hcu, ← hu, List.getD, List.getElem?_eq_getElem ht]; rfl
theorem open_isA {X : Spc} {n : Int} (h : X.open_ n = true) : X.isA n = false := by
  unfold Spc.open_ at h
  simp only [Bool.and_eq_true, Bool.not_eq_true'] at h
  exact h.1
theorem endG_b {g : Nat → Int} (h : ∀ k, isB (g k)) (l : List Int) (k : Nat) : isB (endG g l k) := by
  unfold endG
  split
  · exact ⟨by omega, by omega⟩
  · exact h k
theorem delG_b {g : Nat → Int} (h : ∀ k, isB (g k)) (l : List Int) (j k : Nat) : isB (delG g l j k) := by
  unfold delG
  split
  · split
    · exact h _
    · exact ⟨by omega, by omega⟩
  · exact h k
theorem insG_b {g : Nat → Int} (h : ∀ k, isB (g k)) (l : List Int) (i e k : Nat) : isB (insG g l i e k) := by
  unfold insG
  split
  · exact h _
  · exact h k
def Spc.endA (X : Spc) (n : Int) : Spc := (chs X (endG X.ch0 (X.restL n))).modify n
def Spc.delA (X : Spc) (n : Int) : Spc := (chs X (delG X.ch0 (X.row n) (X.row n).length)).modify n
set_option maxHeartbeats 1600000 in
theorem cend_yes {p g : Nat} {X : Spc} {n : Int} {w : World} (hs : SAt w p g X) (ok : X.Ok) (ho : X.open_ n = true) :
    Calls Try.prog 101 #[.pointer (some ⟨p, 0, none⟩), .int .i64 n] w fun e w' => e = .returned (.bool true) ∧ SAt w' p g (X.endA n) ∧ Keep (two p g) w w' := by
  have HS := Lib.hid hs
  have HOK := Lib.hid ok
  have H1 := Lib.hid (fopen_is n hs ok)
  rw [ho] at H1
  have H2 := Lib.hid (fun W (h : SAt W p g X) => rest_is (n := n) h ok (open_isA ho))
  have HG := Lib.hid (good_rest ok n)
  have HL3 := restL_len ok n
  have zp := hs.lt
  have zg := hs.cells.2.1
  have HE := Lib.hid (show X.endA n = (chs X (endG X.ch0 (X.restL n))).modify n from rfl)
  obtain ⟨Y, hY⟩ : ∃ Y, X.endA n = Y := ⟨_, rfl⟩
  rw [hY] at HE ⊢
  obtain ⟨L, hL⟩ : ∃ L, X.restL n = L := ⟨_, rfl⟩
  rw [hL] at H2 HG HL3 HE
  have HC0 := Lib.hid (ch0_is ok)
  have HCB := Lib.hid (ch0_b ok)
  have HP := Lib.hid (fun W j (hj : j < L.length) (h : SAt W p g (chs X (endG X.ch0 (L.take j)))) => (show Calls _ _ _ W (fun e w' => e = .returned (.tuple #[]) ∧ SAt w' p g (chs X (endG X.ch0 (L.take (j + 1)))) ∧ Keep (two p g) W w') from by
    have := sput_is (L.getD j 0) 0 h (chs_ok ok (endG_b (ch0_b ok) _))
    rw [chs_put ok, endG_step HG.out X.ch0 hj] at this
    exact this))
  have HM := Lib.hid (fun W (h : SAt W p g (chs X (endG X.ch0 L))) => fmodify_is n h (chs_ok ok (endG_b (ch0_b ok) _)))
  obtain ⟨len, hlen⟩ : ∃ len, L.length = len := ⟨_, rfl⟩
  have HLN := Lib.hid hlen
  rw [hlen] at HL3
  clear hs ok ho hY hL hlen
  go_enter Try.func101, Try.ntmps101
  go_wp2_with fail
  refine H1.out.mono ?_
  rintro e w1 ⟨rfl, hu1⟩
  have HU1 := Lib.hid hu1
  clear hu1
  go_wp2_with fail
  refine (H2.out _ (HS.out.up HU1.out)).mono ?_
  rintro e w2 ⟨A, c, rfl, hn2, hu2⟩
  have HN2 := Lib.hid hn2
  have HU2 := Lib.hid (HU1.out.trans hu2)
  have hle := hn2.2.2.1
  have hc : (c : Int) ≤ 9223372036854775807 := by have := hn2.2.2.2; simp [maxLen] at this; omega
  have hz1 := HU1.out.size
  rw [HLN.out] at hle ⊢
  have HS0 := Lib.hid (show SAt w2 p g (chs X (endG X.ch0 (L.take 0))) from by
    have e0 : endG X.ch0 (L.take 0) = X.ch0 := by funext k; simp [endG]
    rw [e0, HC0.out]; exact HS.out.up HU2.out)
  have HZ2 := Lib.hid hu2.size
  clear hn2 hu2
  go_wp2_with fail
  go_loopw [15] (fun i wr => ∃ j : Nat, j ≤ len ∧ i = .int .i64 (j : Int) ∧ SAt wr p g (chs X (endG X.ch0 (L.take j))) ∧ Keep (two p g) w2 wr) (fun i _ => len - (intOf i).toNat)
  case atStart => exact ⟨0, by omega, rfl, HS0.out, Keep.refl _ _⟩
  case round =>
    obtain ⟨j, hj, rfl, hsj, hkj⟩ := hrel
    have HSJ := Lib.hid hsj
    have HKJ := Lib.hid hkj
    have zj := hkj.size
    clear hsj hkj
    by_cases hlt : j < len
    · obtain ⟨b, off, rfl, hb, hb2, hcell⟩ := HN2.out.cell (by rw [HLN.out]; omega)
      have hx := ((HKJ.out.at_ b (by omega) (fun e => by rcases e with e | e <;> omega)).1 (off + j)).trans (hcell j (by rw [HLN.out]; omega))
      have zb : b < wr.heap.size := by omega
      have HPJ := Lib.hid (HP.out wr j (by rw [HLN.out]; omega) HSJ.out)
      have hjn : (j : Int) < (len : Int) := by omega
      generalize L.getD j 0 = x at *
      clear hcell
      go_wp2_with fail
      refine HPJ.out.mono ?_
      rintro e w3 ⟨rfl, hs3, hk3⟩
      have HS3 := Lib.hid hs3
      have HK3 := Lib.hid (HKJ.out.trans hk3)
      clear hs3 hk3
      go_wp2_with fail
      go_roundw
      case rel => exact ⟨j + 1, by omega, by go_num, HS3.out, HK3.out⟩
      case measure => simp [intOf]; omega
    · obtain rfl : j = len := by omega
      have HSE := Lib.hid (show SAt wr p g (chs X (endG X.ch0 L)) from by
        have h1 := HSJ.out
        rw [List.take_of_length_le (by rw [HLN.out]; omega)] at h1
        exact h1)
      go_wp2_with fail
      refine (HM.out _ HSE.out).mono ?_
      rintro e w3 ⟨rfl, hs3, hk3⟩
      have HS3 := Lib.hid hs3
      have HK3 := Lib.hid (((Keep.of_up HU2.out).trans HKJ.out).trans hk3)
      clear hs3 hk3
      go_wp2_with fail
      go_ret
      exact ⟨rfl, by rw [HE.out]; exact HS3.out, HK3.out⟩
theorem cend_no {p g : Nat} {X : Spc} {n : Int} {w : World} (hs : SAt w p g X) (ok : X.Ok) (ho : X.open_ n = false) :
    Calls Try.prog 101 #[.pointer (some ⟨p, 0, none⟩), .int .i64 n] w fun e w' => e = .returned (.bool false) ∧ Up w w' := by
  have H1 := Lib.hid (fopen_is n hs ok)
  rw [ho] at H1
  clear hs ok ho
  go_enter Try.func101, Try.ntmps101
  go_wp2_with fail
  refine H1.out.mono ?_
  rintro e w1 ⟨rfl, hu1⟩
  go_wp2_with fail
  go_ret
  exact ⟨rfl, hu1⟩
end Go.Proofs.Ytjokcfenncogkaa
namespace Go.Proofs.Ytjokcfenncogkaa
open Go.RowKit
set_option linter.unusedVariables false
set_option linter.unusedSimpArgs false

set_option maxHeartbeats 1600000 in
theorem cdel_yes {p g : Nat} {X : Spc} {n : Int} {w : World} (hs : SAt w p g X) (ok : X.Ok) (ho : X.open_ n = true) :
    Calls Try.prog 99 #[.pointer (some ⟨p, 0, none⟩), .int .i64 n] w fun e w' => e = .returned (.bool true) ∧ SAt w' p g (X.delA n) ∧ Keep (two p g) w w' := by
  have HS := Lib.hid hs
  have HOK := Lib.hid ok
  have H1 := Lib.hid (fopen_is n hs ok)
  rw [ho] at H1
  have H2 := Lib.hid (fun W b b2 (h : SAt W p g X) h1 h2 => collect_row (b := b) (b2 := b2) (n := n) h ok h1 h2)
  have HG := Lib.hid (good_row ok n)
  have HL3 := row_len ok n
  have zp := hs.lt
  have zg := hs.cells.2.1
  have HE := Lib.hid (show X.delA n = (chs X (delG X.ch0 (X.row n) (X.row n).length)).modify n from rfl)
  obtain ⟨Y, hY⟩ : ∃ Y, X.delA n = Y := ⟨_, rfl⟩
  rw [hY] at HE ⊢
  obtain ⟨L, hL⟩ : ∃ L, X.row n = L := ⟨_, rfl⟩
  rw [hL] at H2 HG HL3 HE
  have HC0 := Lib.hid (ch0_is ok)
  have HCB := Lib.hid (ch0_b ok)
  have HP := Lib.hid (fun W j v (hj : j < L.length) (hv : v = if j + 1 < L.length then X.ch0 (L.getD (j + 1) 0).toNat else 0) (h : SAt W p g (chs X (delG X.ch0 L j))) => (show Calls Try.prog 31 #[.pointer (some ⟨p, 0, none⟩), .int .i64 (L.getD j 0), .int .u8 v] W (fun e w' => e = .returned (.tuple #[]) ∧ SAt w' p g (chs X (delG X.ch0 L (j + 1))) ∧ Keep (two p g) W w') from by
    have := sput_is (L.getD j 0) v h (chs_ok ok (delG_b (ch0_b ok) L j))
    rw [chs_put ok, delG_step HG.out X.ch0 hj hv] at this
    exact this))
  have HA := Lib.hid (fun W j (hj : j + 1 < L.length) (h : SAt W p g (chs X (delG X.ch0 L j))) => (show ∃ d : Cl, d.ch = X.ch0 (L.getD (j + 1) 0).toNat ∧ Calls Try.prog 27 #[.pointer (some ⟨p, 0, none⟩), .int .i64 (L.getD (j + 1) 0)] W (fun e w' => e = .returned (.agg #[.int .u8 d.ch, .bool d.at_, .int .u8 d.fa, .int .u8 d.hi, .int .u8 d.co, .int .u8 d.se]) ∧ Up W w') from
    ⟨_, by rw [chs_ch ok _ _ (HG.out.na _ (at_mem hj))]; exact delG_next HG.out X.ch0 hj, sat_op (L.getD (j + 1) 0) h (chs_ok ok (delG_b (ch0_b ok) L j)) rfl⟩))
  have HM := Lib.hid (fun W (h : SAt W p g (chs X (delG X.ch0 L L.length))) => fmodify_is n h (chs_ok ok (delG_b (ch0_b ok) L L.length)))
  have fC := fldC0
  obtain ⟨len, hlen⟩ : ∃ len, L.length = len := ⟨_, rfl⟩
  have HLN := Lib.hid hlen
  rw [hlen] at HL3
  clear hs ok ho hY hL hlen
  go_enter Try.func99, Try.ntmps99
  go_wp2_with fail
  refine H1.out.mono ?_
  rintro e w1 ⟨rfl, hu1⟩
  have HU1 := Lib.hid hu1
  clear hu1
  go_wp2_with fail
  refine (row_val _ _ _).mono ?_
  rintro e wr0 ⟨b, b2, rfl, -, -, -, -, hcb, hcb2, hur⟩
  have HC := Lib.hid (H2.out _ _ _ ((HS.out.up HU1.out).up hur) hcb hcb2)
  have HUR := Lib.hid (HU1.out.trans hur)
  clear hcb hcb2 hur
  go_wp2_with fail
  refine HC.out.mono ?_
  rintro e w2 ⟨A, c, rfl, hown, hu2⟩
  have hn2 : NewI w w2 L A c := NewI.of_own (hown.low HUR.out.size)
  have HN2 := Lib.hid hn2
  have HU2 := Lib.hid (HUR.out.trans hu2)
  have hle := hn2.2.2.1
  have hc : (c : Int) ≤ 9223372036854775807 := by have := hn2.2.2.2; simp [maxLen] at this; omega
  have hz1 := HU2.out.size
  rw [HLN.out] at hle HM ⊢
  have HS0 := Lib.hid (show SAt w2 p g (chs X (delG X.ch0 L 0)) from by rw [delG_zero, HC0.out]; exact HS.out.up HU2.out)
  clear hn2 hown hu2
  go_wp2_with fail
  go_loopw [19] (fun i wr => ∃ j : Nat, j ≤ len ∧ i = .int .i64 (j : Int) ∧ SAt wr p g (chs X (delG X.ch0 L j)) ∧ Keep (two p g) w2 wr) (fun i _ => len - (intOf i).toNat)
  case atStart => exact ⟨0, by omega, rfl, HS0.out, Keep.refl _ _⟩
  case round =>
    obtain ⟨j, hj, rfl, hsj, hkj⟩ := hrel
    have HSJ := Lib.hid hsj
    have HKJ := Lib.hid hkj
    have zj := hkj.size
    clear hsj hkj
    by_cases hlt : j < len
    · obtain ⟨b, off, rfl, hb, hb2, hcell⟩ := HN2.out.cell (by rw [HLN.out]; omega)
      have hx := ((HKJ.out.at_ b (by omega) (fun e => by rcases e with e | e <;> omega)).1 (off + j)).trans (hcell j (by rw [HLN.out]; omega))
      have zb : b < wr.heap.size := by omega
      have hjn : (j : Int) < (len : Int) := by omega
      by_cases hlt2 : j + 1 < len
      · have hj1 : (j : Int) + 1 < (len : Int) := by omega
        have hy := ((HKJ.out.at_ b (by omega) (fun e => by rcases e with e | e <;> omega)).1 (off + (j + 1))).trans (hcell (j + 1) (by rw [HLN.out]; omega))
        obtain ⟨d, hd, hcall⟩ := HA.out wr j (by rw [HLN.out]; omega) HSJ.out
        have HCA := Lib.hid hcall
        have HPJ := Lib.hid (fun W h => HP.out W j d.ch (by rw [HLN.out]; omega) (by rw [HLN.out, if_pos hlt2]; exact hd) h)
        generalize L.getD j 0 = x at *
        generalize L.getD (j + 1) 0 = y at *
        have HX := Lib.hid hx
        clear hcell hd hcall
        go_wp2_with fail
        refine HCA.out.mono ?_
        rintro e w4 ⟨rfl, hu4⟩
        have HU4 := Lib.hid hu4
        clear hu4
        go_wp2_with fail
        refine (HPJ.out _ (HSJ.out.up HU4.out)).mono ?_
        rintro e w3 ⟨rfl, hs3, hk3⟩
        have HS3 := Lib.hid hs3
        have HK3 := Lib.hid ((HKJ.out.up HU4.out).trans hk3)
        clear hs3 hk3
        go_wp2_with fail
        go_roundw
        case rel => exact ⟨j + 1, by omega, by go_num, HS3.out, HK3.out⟩
        case measure => simp [intOf]; omega
      · have hj1 : ¬ (j : Int) + 1 < (len : Int) := by omega
        have HPJ := Lib.hid (fun W h => HP.out W j 0 (by rw [HLN.out]; omega) (by rw [HLN.out, if_neg hlt2]) h)
        generalize L.getD j 0 = x at *
        clear hcell
        go_wp2_with fail
        refine (HPJ.out _ HSJ.out).mono ?_
        rintro e w3 ⟨rfl, hs3, hk3⟩
        have HS3 := Lib.hid hs3
        have HK3 := Lib.hid (HKJ.out.trans hk3)
        clear hs3 hk3
        go_wp2_with fail
        go_roundw
        case rel => exact ⟨j + 1, by omega, by go_num, HS3.out, HK3.out⟩
        case measure => simp [intOf]; omega
    · obtain rfl : j = len := by omega
      go_wp2_with fail
      refine (HM.out _ HSJ.out).mono ?_
      rintro e w3 ⟨rfl, hs3, hk3⟩
      have HS3 := Lib.hid hs3
      have HK3 := Lib.hid (((Keep.of_up HU2.out).trans HKJ.out).trans hk3)
      clear hs3 hk3
      go_wp2_with fail
      go_ret
      exact ⟨rfl, by rw [HE.out, HLN.out]; exact HS3.out, HK3.out⟩
theorem cdel_no {p g : Nat} {X : Spc} {n : Int} {w : World} (hs : SAt w p g X) (ok : X.Ok) (ho : X.open_ n = false) :
    Calls Try.prog 99 #[.pointer (some ⟨p, 0, none⟩), .int .i64 n] w fun e w' => e = .returned (.bool false) ∧ Up w w' := by
  have H1 := Lib.hid (fopen_is n hs ok)
  rw [ho] at H1
  clear hs ok ho
  go_enter Try.func99, Try.ntmps99
  go_wp2_with fail
  refine H1.out.mono ?_
  rintro e w1 ⟨rfl, hu1⟩
  go_wp2_with fail
  go_ret
  exact ⟨rfl, hu1⟩
end Go.Proofs.Ytjokcfenncogkaa
namespace Go.Proofs.Ytjokcfenncogkaa
open Go.RowKit
set_option linter.unusedVariables false
set_option linter.unusedSimpArgs false

/-- the first of these places that is null -/
def Spc.nul (X : Spc) (l : List Int) : Option Nat := l.findIdx? fun x => (X.at_ x).ch == 0
def nulVal (o : Option Nat) : Int := match o with | some i => (i : Int) | none => -1
theorem isnull_is {p g b : Nat} {X : Spc} {x : Int} {w : World} (hs : SAt w p g X) (ok : X.Ok) (hb : w.cell? ⟨b, 0, none⟩ = some (.pointer (some ⟨p, 0, none⟩))) :
    Calls Try.prog 142 #[.int .i64 x, .pointer (some ⟨b, 0, none⟩)] w fun e w' => e = .returned (.bool ((X.at_ x).ch == 0)) ∧ Up w w' := by
  have fC := fldC0
  have HA := Lib.hid (sat_op x hs ok rfl)
  have zb := cell_lt hb
  simp only at zb
  generalize X.at_ x = d at *
  clear hs ok
  go_enter Try.func142, Try.ntmps142
  go_wp2_with fail
  refine HA.out.mono ?_
  rintro e w1 ⟨rfl, hu1⟩
  go_wp2_with fail
  go_ret
  exact ⟨ret_bool (by simp), hu1⟩
set_option maxRecDepth 100000 in
set_option maxHeartbeats 3200000 in
theorem indexfn_is {p g b c : Nat} {A : Option Addr} {X : Spc} {L : List Int} {w : World} (hs : SAt w p g X) (ok : X.Ok) (hb : w.cell? ⟨b, 0, none⟩ = some (.pointer (some ⟨p, 0, none⟩))) (hr : Reads w w.heap.size 1 A L.length (ns L)) (hn : L.length ≤ 65536) :
    Calls Try.prog 141 #[.slice A L.length c, .func (.func 142) #[] #[.pointer (some ⟨b, 0, none⟩)]] w fun e w' => e = .returned (.int .i64 (nulVal (X.nul L))) ∧ Up w w' := by
  have HS := Lib.hid hs
  have HR := Lib.hid hr
  have HB := Lib.hid hb
  have HN := Lib.hid (fun W x (h : SAt W p g X) (h2 : W.cell? ⟨b, 0, none⟩ = some (.pointer (some ⟨p, 0, none⟩))) => isnull_is (b := b) (x := x) h ok h2)
  have HI := Lib.hid (show ∀ j, j < L.length → (∀ i, i < j → ((X.at_ (L.getD i 0)).ch == 0) = false) → ((X.at_ (L.getD j 0)).ch == 0) = true → nulVal (X.nul L) = (j : Int) from fun j hj h1 h2 => by
    have : X.nul L = some j := by
      unfold Spc.nul
      rw [List.findIdx?_eq_some_iff_getElem]
      refine ⟨hj, ?_, fun i hi => ?_⟩
      · rw [List.getD, List.getElem?_eq_getElem hj] at h2; exact h2
      · have h3 := h1 i hi
        rw [List.getD, List.getElem?_eq_getElem (by omega)] at h3
        simpa using h3
    rw [this]; rfl)
  have HE := Lib.hid (show (∀ i, i < L.length → ((X.at_ (L.getD i 0)).ch == 0) = false) → nulVal (X.nul L) = -1 from fun h1 => by
    have : X.nul L = none := by
      unfold Spc.nul
      rw [List.findIdx?_eq_none_iff]
      intro y hy
      obtain ⟨t, ht, rfl⟩ := List.getElem_of_mem hy
      have := h1 t ht
      rw [List.getD, List.getElem?_eq_getElem ht] at this
      simpa using this
    rw [this]; rfl)
  generalize nulVal (X.nul L) = res at *
  obtain ⟨len, hlen⟩ : ∃ len, L.length = len := ⟨_, rfl⟩
  have HLN := Lib.hid hlen
  rw [hlen] at HI HE hn ⊢
  clear hr hs ok hb hlen
  go_enter Try.func141, Try.ntmps141
  go_wp2_with fail
  go_loopw [8] (fun i wr => ∃ j : Nat, j ≤ len ∧ i = .int .i64 (j : Int) ∧ (∀ i, i < j → ((X.at_ (L.getD i 0)).ch == 0) = false) ∧ Up w wr) (fun i _ => len - (intOf i).toNat)
  case atStart => exact ⟨0, by omega, rfl, fun i hi => by omega, Up.refl _⟩
  case round =>
    obtain ⟨j, hj, rfl, hall, huj⟩ := hrel
    have HUJ := Lib.hid huj
    have HA := Lib.hid hall
    by_cases hlt : j < len
    · have hrd := HR.out.up huj
      obtain ⟨bb, off, rfl, hbb⟩ := hrd.form (by rw [HLN.out]; omega)
      have hx0 : wr.cell? ⟨bb, off + j, none⟩ = some (.int .i64 (L.getD j 0)) := by
        obtain ⟨_, u, hu, hcu⟩ := hrd.at_ (j := j) (by rw [HLN.out]; omega)
        unfold ns at hu
        rw [List.getElem?_map, List.getElem?_eq_getElem (by rw [HLN.out]; omega)] at hu
        rw [hcu, ← hu, List.getD, List.getElem?_eq_getElem (by rw [HLN.out]; omega)]; rfl
      have HNJ := Lib.hid (HN.out wr (L.getD j 0) (HS.out.up huj) (((huj.at_ b (cell_lt HB.out)).1 0).trans HB.out))
      have HIJ := Lib.hid (HI.out j hlt hall)
      have hjn : (j : Int) < (len : Int) := by omega
      have HBV := Lib.hid (show ∀ i, i < j + 1 → ((X.at_ (L.getD j 0)).ch == 0) = false → ((X.at_ (L.getD i 0)).ch == 0) = false from fun i hi h => by
        rcases Nat.lt_or_ge i j with h2 | h2
        · exact hall i h2
        · obtain rfl : i = j := by omega
          exact h)
      obtain ⟨v, hv⟩ : ∃ v, ((X.at_ (L.getD j 0)).ch == 0) = v := ⟨_, rfl⟩
      rw [hv] at HNJ HIJ HBV
      clear hrd hall huj hv
      generalize L.getD j 0 = x at *
      cases v
      · go_wp2_with fail
        refine HNJ.out.mono ?_
        rintro e w3 ⟨rfl, hu3⟩
        have HU3 := Lib.hid (HUJ.out.trans hu3)
        clear hu3
        go_wp2_with fail
        go_roundw
        case rel => exact ⟨j + 1, by omega, by go_num, fun i hi => HBV.out i hi (by first | rfl | trivial), HU3.out⟩
        case measure => simp [intOf]; omega
      · have HRS := Lib.hid (HIJ.out rfl)
        go_wp2_with fail
        refine HNJ.out.mono ?_
        rintro e w3 ⟨rfl, hu3⟩
        have HU3 := Lib.hid (HUJ.out.trans hu3)
        clear hu3
        go_wp2_with fail
        go_ret
        exact ⟨by rw [HRS.out]; rfl, HU3.out⟩
    · obtain rfl : j = len := by omega
      have HRS := Lib.hid (HE.out hall)
      clear hall huj
      go_wp2_with fail
      go_ret
      exact ⟨by rw [HRS.out]; rfl, HUJ.out⟩
def insL (X : Spc) (L : List Int) (x : Int) (e : Nat) : Spc := chs X (updG (insG X.ch0 L 0 e) (X.wrap (L.getD 0 0)) x)
def Spc.insA (X : Spc) (n x : Int) (e : Nat) : Spc := (insL X (X.roundL n) x e).modify n
theorem updG_b {g : Nat → Int} (h : ∀ k, isB (g k)) (k0 : Nat) {x : Int} (hx : isB x) (k : Nat) : isB (updG g k0 x k) := by
  unfold updG
  split
  · exact hx
  · exact h k
set_option maxRecDepth 100000 in
set_option maxHeartbeats 6400000 in
theorem cins_yes {p g e : Nat} {X : Spc} {n x : Int} {w : World} (hx : isB x) (hs : SAt w p g X) (ok : X.Ok) (ho : X.open_ n = true) (he : X.nul (X.roundL n) = some e) :
    Calls Try.prog 98 #[.pointer (some ⟨p, 0, none⟩), .int .i64 n, .int .u8 x] w fun e' w' => e' = .returned (.bool true) ∧ SAt w' p g (X.insA n x e) ∧ Keep (two p g) w w' := by
  have HS := Lib.hid hs
  have HOK := Lib.hid ok
  have H1 := Lib.hid (fun W (h : SAt W p g X) => fopen_is n h ok)
  rw [ho] at H1
  have H2 := Lib.hid (fun W (h : SAt W p g X) => round_is14 (n := n) h ok (open_isA ho))
  have HG := Lib.hid (good_round ok n)
  have HL3 : (X.roundL n).length ≤ 3564 := by
    unfold Spc.roundL
    split
    · exact restL_len ok n
    · rw [placesN_len]; exact ok.small
  have zp := hs.lt
  have zg := hs.cells.2.1
  have HE := Lib.hid (show X.insA n x e = (insL X (X.roundL n) x e).modify n from rfl)
  obtain ⟨Y, hY⟩ : ∃ Y, X.insA n x e = Y := ⟨_, rfl⟩
  rw [hY] at HE ⊢
  have hel : e < (X.roundL n).length := by
    unfold Spc.nul at he
    rw [List.findIdx?_eq_some_iff_getElem] at he
    exact he.1
  have HIF := Lib.hid (fun W b c A (h : SAt W p g X) h1 h2 => indexfn_is (b := b) (c := c) (A := A) (L := X.roundL n) h ok h1 h2 (by omega))
  rw [he] at HIF
  obtain ⟨L, hL⟩ : ∃ L, X.roundL n = L := ⟨_, rfl⟩
  rw [hL] at H2 HG HL3 HE HIF hel
  have HP := Lib.hid (fun W i v (hi : i ≤ e) (h0 : 0 < i) (hv : v = X.ch0 (L.getD (i - 1) 0).toNat) (h : SAt W p g (chs X (insG X.ch0 L i e))) => (show Calls Try.prog 31 #[.pointer (some ⟨p, 0, none⟩), .int .i64 (L.getD i 0), .int .u8 v] W (fun e' w' => e' = .returned (.tuple #[]) ∧ SAt w' p g (chs X (insG X.ch0 L (i - 1) e)) ∧ Keep (two p g) W w') from by
    have := sput_is (L.getD i 0) v h (chs_ok ok (insG_b (ch0_b ok) L i e))
    rw [chs_put ok, insG_step HG.out X.ch0 hel hi h0 hv] at this
    exact this))
  have HPL := Lib.hid (fun W (h : SAt W p g (chs X (insG X.ch0 L 0 e))) => (show Calls Try.prog 31 #[.pointer (some ⟨p, 0, none⟩), .int .i64 (L.getD 0 0), .int .u8 x] W (fun e' w' => e' = .returned (.tuple #[]) ∧ SAt w' p g (insL X L x e) ∧ Keep (two p g) W w') from by
    have := sput_is (L.getD 0 0) x h (chs_ok ok (insG_b (ch0_b ok) L 0 e))
    rw [chs_put ok] at this
    exact this))
  have HA := Lib.hid (fun W i (hi : i ≤ e) (h0 : 0 < i) (h : SAt W p g (chs X (insG X.ch0 L i e))) => (show ∃ d : Cl, d.ch = X.ch0 (L.getD (i - 1) 0).toNat ∧ ∀ W', Up W W' → Calls Try.prog 27 #[.pointer (some ⟨p, 0, none⟩), .int .i64 (L.getD (i - 1) 0)] W' (fun e' w' => e' = .returned (.agg #[.int .u8 d.ch, .bool d.at_, .int .u8 d.fa, .int .u8 d.hi, .int .u8 d.co, .int .u8 d.se]) ∧ Up W' w') from
    ⟨_, by rw [chs_ch ok _ _ (HG.out.na _ (at_mem (by omega)))]; exact insG_ahead HG.out X.ch0 (by omega) h0, fun W' hu => sat_op (L.getD (i - 1) 0) (h.up hu) (chs_ok ok (insG_b (ch0_b ok) L i e)) rfl⟩))
  have HM := Lib.hid (fun W (h : SAt W p g (insL X L x e)) => fmodify_is n h (chs_ok ok (updG_b (insG_b (ch0_b ok) L 0 e) _ hx)))
  have HC0 := Lib.hid (show chs X (insG X.ch0 L e e) = X by rw [insG_start]; exact ch0_is ok)
  have fC := fldC0
  have hx0 := hx.1
  have hx1 := hx.2
  obtain ⟨len, hlen⟩ : ∃ len, L.length = len := ⟨_, rfl⟩
  have HLN := Lib.hid hlen
  rw [hlen] at HL3 hel
  clear hs ok ho hY hL hlen he hx
  go_enter Try.func98, Try.ntmps98
  go_wp2_with fail
  refine (H1.out _ (HS.out.up ((Up.refl w).alloc _))).mono ?_
  rintro e1 w1 ⟨rfl, hu1⟩
  have hb1 := hu1.at_ w.heap.size (by simp)
  have c1 := (hb1.1 0).trans (by simp [go_sem] : _ = some (.pointer (some ⟨p, 0, none⟩)))
  have z1 : w.heap.size < w1.heap.size := by have := hu1.size; simp at this; omega
  have HU1 := Lib.hid (((Up.refl w).alloc (.cells #[.pointer (some ⟨p, 0, none⟩)] 27)).trans hu1)
  clear hu1 hb1
  go_wp2_with fail
  refine (H2.out _ (HS.out.up HU1.out)).mono ?_
  rintro e1 w2 ⟨A, c, rfl, hn2, hu2⟩
  have HN2 := Lib.hid hn2
  have HU2 := Lib.hid (HU1.out.trans hu2)
  have hle := hn2.2.2.1
  have hc : (c : Int) ≤ 9223372036854775807 := by have := hn2.2.2.2; simp [maxLen] at this; omega
  have c2 := ((hu2.at_ w.heap.size z1).1 0).trans c1
  have z2 : w.heap.size < w2.heap.size := by have := hu2.size; omega
  have HI2 := Lib.hid (HIF.out w2 w.heap.size c A (HS.out.up HU2.out) c2 hn2.1)
  have HZA := Lib.hid (show ∀ pp, A = some pp → w.heap.size < pp.block from fun pp hpp => by have := hn2.2.1 pp hpp; omega)
  rw [HLN.out] at hle HI2 ⊢
  clear hn2 hu2 c1 HIF H2
  go_wp2_with fail
  refine HI2.out.mono ?_
  rintro e1 w3 ⟨rfl, hu3⟩
  have c3 := ((hu3.at_ w.heap.size z2).1 0).trans c2
  have z3 : w.heap.size < w3.heap.size := by have := hu3.size; omega
  have HU3 := Lib.hid (HU2.out.trans hu3)
  obtain ⟨b, off, rfl, hb, hb2, hcell2⟩ := HN2.out.cell (by rw [HLN.out]; omega)
  have HCE := Lib.hid (show ∀ t, t < len → w3.cell? ⟨b, off + t, none⟩ = some (.int .i64 (L.getD t 0)) from fun t ht => ((hu3.at_ b hb2).1 _).trans (hcell2 t (by rw [HLN.out]; exact ht)))
  have hb3 : b < w3.heap.size := by have := hu3.size; omega
  have hbw := HZA.out _ rfl
  simp only at hbw
  have HS3 := Lib.hid (show SAt w3 p g (chs X (insG X.ch0 L e e)) by rw [HC0.out]; exact HS.out.up HU3.out)
  have hee : nulVal (some e) = (e : Int) := rfl
  rw [hee]
  clear hu3 c2 hcell2 HI2 hee
  go_wp2_with fail
  go_loopw [9] (fun v wr => ∃ i : Nat, i ≤ e ∧ v = .int .i64 (i : Int) ∧ SAt wr p g (chs X (insG X.ch0 L i e)) ∧ Keep (two p g) w3 wr) (fun v _ => (intOf v).toNat)
  case atStart => exact ⟨e, Nat.le_refl _, rfl, HS3.out, Keep.refl _ _⟩
  case round =>
    obtain ⟨i, hi, rfl, hsi, hki⟩ := hrel
    have HSI := Lib.hid hsi
    have HKI := Lib.hid hki
    have zi := hki.size
    have cr := ((hki.at_ w.heap.size z3 (fun e1 => by rcases e1 with e1 | e1 <;> omega)).1 0).trans c3
    have zr : w.heap.size < wr.heap.size := by omega
    have zb : b < wr.heap.size := by omega
    have HCR := Lib.hid (show ∀ t, t < len → wr.cell? ⟨b, off + t, none⟩ = some (.int .i64 (L.getD t 0)) from fun t ht => ((hki.at_ b hb3 (fun e1 => by rcases e1 with e1 | e1 <;> omega)).1 _).trans (HCE.out t ht))
    clear hsi hki
    by_cases h0 : 0 < i
    · have hx1 := HCR.out i (by omega)
      have hx2 := HCR.out (i - 1) (by omega)
      obtain ⟨d, hd, hcall⟩ := HA.out wr i hi h0 HSI.out
      have HCA := Lib.hid hcall
      have HPJ := Lib.hid (fun W h => HP.out W i d.ch hi h0 hd h)
      obtain ⟨i1, hi1⟩ : ∃ i1 : Nat, i = i1 + 1 := ⟨i - 1, by omega⟩
      subst hi1
      simp only [Nat.add_sub_cancel] at hx2 HCA HPJ
      have hcast : ((i1 + 1 : Nat) : Int) = (i1 : Int) + 1 := by omega
      have hgt : (0 : Int) < (i1 : Int) + 1 := by omega
      have hlt1 : (i1 : Int) + 1 < (len : Int) := by omega
      have hlt2 : (i1 : Int) < (len : Int) := by omega
      generalize L.getD (i1 + 1) 0 = xa at *
      generalize L.getD i1 0 = xb at *
      rw [hcast]
      clear hd hcall hcast
      go_wp2_with fail
      refine wp_region_mixT 13 (NS := []) [] rfl (by kernel_rfl) (by kernel_rfl) (by simp) (by simp) ?_
      simp only [List.take_succ_cons, List.take_zero, List.drop_succ_cons, List.drop_zero]
      repeat (first
        | (refine mix_skip rfl rfl ?_; simp only [Act.put, List.setIfInBounds_toArray, List.set_cons_succ, List.set_cons_zero])
        | (refine mix_q rfl rfl rfl (by kernel_rfl) rfl rfl rfl ?_
           apply Exists.intro
           refine ⟨fun Wm => ?_, ?_⟩
           · simp only [fin]
             skip
             intro K hK
             go_wp2_with ((go_at_call 27; (with_reducible refine (HCA.out _ (up_upOf _ _)).mono ?_); rintro e' w' ⟨rfl, hux⟩))
             refine hK _ _ ?_ ?_ ?_
             · (repeat (first | with_reducible exact Up.refl _ | with_reducible refine Up.alloc ?_ _ | with_reducible refine Up.drew ?_ | with_reducible refine Up.drewN ?_ _ | with_reducible refine Up.setCell ?_ (by (try simp) <;> omega) _ | with_reducible assumption | with_reducible refine Up.trans ?_ (by assumption)))
             · rfl
             · exact tmps_at rfl
           simp only [Act.put, List.setIfInBounds_toArray, List.set_cons_succ, List.set_cons_zero]))
      refine mix_nil ?_
      intro w4 hb_w4
      simp only [fin]
      have hu_w4 : Up wr w4 := by (repeat (first | with_reducible exact Up.refl _ | with_reducible refine Up.alloc ?_ _ | with_reducible refine Up.drew ?_ | with_reducible refine Up.drewN ?_ _ | with_reducible refine Up.setCell ?_ (by (try simp) <;> omega) _ | with_reducible assumption | with_reducible refine Up.trans ?_ (by assumption)))
      have hz_w4 := Up.size hb_w4
      try simp at hz_w4
      obtain ⟨bc_w4_0, bf_w4_0⟩ := hu_w4.at_ (w.heap.size) (by omega)
      obtain ⟨bc_w4_1, bf_w4_1⟩ := hu_w4.at_ (b) (by omega)
      have zb_w4_0 : w.heap.size < w4.heap.size := by omega
      have zb_w4_1 : b < w4.heap.size := by omega
      go_wp2_with fail
      refine (HPJ.out _ (HSI.out.up hb_w4)).mono ?_
      rintro e1 w5 ⟨rfl, hs5, hk5⟩
      have HS5 := Lib.hid hs5
      have HK5 := Lib.hid ((HKI.out.up hb_w4).trans hk5)
      clear hs5 hk5
      go_wp2_with fail
      go_roundw
      case rel => exact ⟨i1, by omega, by go_num, HS5.out, HK5.out⟩
      case measure => first | (simp [intOf]; done) | (simp [intOf]; omega)
    · obtain rfl : i = 0 := by omega
      have hx1 := HCR.out 0 (by omega)
      rw [Nat.add_zero] at hx1
      have hlt1 : (0 : Int) < (len : Int) := by omega
      have HPJ := Lib.hid (fun W h => HPL.out W h)
      generalize L.getD 0 0 = xa at *
      go_wp2_with fail
      refine wp_region_mixT 5 (NS := []) [] rfl (by kernel_rfl) (by kernel_rfl) (by simp) (by simp) ?_
      simp only [List.take_succ_cons, List.take_zero, List.drop_succ_cons, List.drop_zero]
      repeat (first
        | (refine mix_skip rfl rfl ?_; simp only [Act.put, List.setIfInBounds_toArray, List.set_cons_succ, List.set_cons_zero])
        | (refine mix_q rfl rfl rfl (by kernel_rfl) rfl rfl rfl ?_
           apply Exists.intro
           refine ⟨fun Wm => ?_, ?_⟩
           · simp only [fin]
             skip
             intro K hK
             go_wp2_with (fail)
             refine hK _ _ ?_ ?_ ?_
             · (repeat (first | with_reducible exact Up.refl _ | with_reducible refine Up.alloc ?_ _ | with_reducible refine Up.drew ?_ | with_reducible refine Up.drewN ?_ _ | with_reducible refine Up.setCell ?_ (by (try simp) <;> omega) _ | with_reducible assumption | with_reducible refine Up.trans ?_ (by assumption)))
             · rfl
             · exact tmps_at rfl
           simp only [Act.put, List.setIfInBounds_toArray, List.set_cons_succ, List.set_cons_zero]))
      refine mix_nil ?_
      intro w4 hb_w4
      simp only [fin]
      have hu_w4 : Up wr w4 := by (repeat (first | with_reducible exact Up.refl _ | with_reducible refine Up.alloc ?_ _ | with_reducible refine Up.drew ?_ | with_reducible refine Up.drewN ?_ _ | with_reducible refine Up.setCell ?_ (by (try simp) <;> omega) _ | with_reducible assumption | with_reducible refine Up.trans ?_ (by assumption)))
      have hz_w4 := Up.size hb_w4
      try simp at hz_w4
      obtain ⟨bc_w4_0, bf_w4_0⟩ := hu_w4.at_ (w.heap.size) (by omega)
      obtain ⟨bc_w4_1, bf_w4_1⟩ := hu_w4.at_ (b) (by omega)
      have zb_w4_0 : w.heap.size < w4.heap.size := by omega
      have zb_w4_1 : b < w4.heap.size := by omega
      go_wp2_with fail
      refine (HPJ.out _ (HSI.out.up hb_w4)).mono ?_
      rintro e1 w5 ⟨rfl, hs5, hk5⟩
      have HS5 := Lib.hid hs5
      have HK5 := Lib.hid ((HKI.out.up hb_w4).trans hk5)
      have c5 := ((hk5.at_ w.heap.size zb_w4_0 (fun e1 => by rcases e1 with e1 | e1 <;> omega)).1 0).trans ((bc_w4_0 0).trans cr)
      have z5 : w.heap.size < w5.heap.size := by have := hk5.size; omega
      clear hs5 hk5
      go_wp2_with fail
      refine (HM.out _ HS5.out).mono ?_
      rintro e1 w6 ⟨rfl, hs6, hk6⟩
      have HS6 := Lib.hid hs6
      have HK6 := Lib.hid (((Keep.of_up HU3.out).trans HK5.out).trans hk6)
      clear hs6 hk6
      go_wp2_with fail
      go_ret
      exact ⟨rfl, by rw [HE.out]; exact HS6.out, HK6.out⟩
theorem cins_shut {p g : Nat} {X : Spc} {n x : Int} {w : World} (hs : SAt w p g X) (ok : X.Ok) (ho : X.open_ n = false) :
    Calls Try.prog 98 #[.pointer (some ⟨p, 0, none⟩), .int .i64 n, .int .u8 x] w fun e' w' => e' = .returned (.bool false) ∧ Up w w' := by
  have HS := Lib.hid hs
  have H1 := Lib.hid (fun W (h : SAt W p g X) => fopen_is n h ok)
  rw [ho] at H1
  clear hs ok ho
  go_enter Try.func98, Try.ntmps98
  go_wp2_with fail
  refine (H1.out _ (HS.out.up ((Up.refl w).alloc _))).mono ?_
  rintro e1 w1 ⟨rfl, hu1⟩
  have HU1 := Lib.hid (((Up.refl w).alloc (.cells #[.pointer (some ⟨p, 0, none⟩)] 27)).trans hu1)
  clear hu1
  go_wp2_with fail
  go_ret
  exact ⟨rfl, HU1.out⟩
set_option maxHeartbeats 1600000 in
theorem cins_full {p g : Nat} {X : Spc} {n x : Int} {w : World} (hs : SAt w p g X) (ok : X.Ok) (ho : X.open_ n = true) (he : X.nul (X.roundL n) = none) :
    Calls Try.prog 98 #[.pointer (some ⟨p, 0, none⟩), .int .i64 n, .int .u8 x] w fun e' w' => e' = .returned (.bool false) ∧ Up w w' := by
  have HS := Lib.hid hs
  have H1 := Lib.hid (fun W (h : SAt W p g X) => fopen_is n h ok)
  rw [ho] at H1
  have H2 := Lib.hid (fun W (h : SAt W p g X) => round_is14 (n := n) h ok (open_isA ho))
  have HL3 : (X.roundL n).length ≤ 3564 := by
    unfold Spc.roundL
    split
    · exact restL_len ok n
    · rw [placesN_len]; exact ok.small
  have HIF := Lib.hid (fun W b c A (h : SAt W p g X) h1 h2 => indexfn_is (b := b) (c := c) (A := A) (L := X.roundL n) h ok h1 h2 (by omega))
  rw [he] at HIF
  obtain ⟨L, hL⟩ : ∃ L, X.roundL n = L := ⟨_, rfl⟩
  rw [hL] at H2 HIF
  clear hs ok ho hL he HL3
  go_enter Try.func98, Try.ntmps98
  go_wp2_with fail
  refine (H1.out _ (HS.out.up ((Up.refl w).alloc _))).mono ?_
  rintro e1 w1 ⟨rfl, hu1⟩
  have hb1 := hu1.at_ w.heap.size (by simp)
  have c1 := (hb1.1 0).trans (by simp [go_sem] : _ = some (.pointer (some ⟨p, 0, none⟩)))
  have z1 : w.heap.size < w1.heap.size := by have := hu1.size; simp at this; omega
  have HU1 := Lib.hid (((Up.refl w).alloc (.cells #[.pointer (some ⟨p, 0, none⟩)] 27)).trans hu1)
  clear hu1 hb1
  go_wp2_with fail
  refine (H2.out _ (HS.out.up HU1.out)).mono ?_
  rintro e1 w2 ⟨A, c, rfl, hn2, hu2⟩
  have HU2 := Lib.hid (HU1.out.trans hu2)
  have c2 := ((hu2.at_ w.heap.size z1).1 0).trans c1
  have z2 : w.heap.size < w2.heap.size := by have := hu2.size; omega
  have HI2 := Lib.hid (HIF.out w2 w.heap.size c A (HS.out.up HU2.out) c2 hn2.1)
  clear hn2 hu2 c1 HIF H2
  go_wp2_with fail
  refine HI2.out.mono ?_
  rintro e1 w3 ⟨rfl, hu3⟩
  have HU3 := Lib.hid (HU2.out.trans hu3)
  have hee : nulVal none = -1 := rfl
  rw [hee]
  clear hu3 hee
  go_wp2_with fail
  go_ret
  exact ⟨rfl, HU3.out⟩
end Go.Proofs.Ytjokcfenncogkaa
namespace Go.Proofs.Ytjokcfenncogkaa
open Go.RowKit
set_option linter.unusedVariables false
set_option linter.unusedSimpArgs false

/-- as large, and its attributes where the other's are -/
structure Alk (X Y : Spc) : Prop where
  r : Y.r = X.r
  c : Y.c = X.c
  len : Y.L.length = X.L.length
  at_ : ∀ n, Y.isA n = X.isA n
theorem Alk.refl (X : Spc) : Alk X X := ⟨rfl, rfl, rfl, fun _ => rfl⟩
theorem Alk.trans {X Y Z : Spc} (h : Alk X Y) (k : Alk Y Z) : Alk X Z := ⟨k.r.trans h.r, k.c.trans h.c, k.len.trans h.len, fun n => (k.at_ n).trans (h.at_ n)⟩
theorem Alk.back {X Y : Spc} (h : Alk X Y) (n : Int) : Y.back n = X.back n := by
  unfold Spc.back
  rw [h.len]
  congr 1
  funext d
  exact h.at_ _
theorem Alk.start {X Y : Spc} (h : Alk X Y) (n : Int) : Y.start n = X.start n := by
  unfold Spc.start
  rw [h.back, h.r, h.c]
theorem Alk.cnt {X Y : Spc} (h : Alk X Y) (a : Int) : Y.cnt a = X.cnt a := by
  unfold Spc.cnt
  rw [h.len]
  congr 2
  funext d
  exact h.at_ _
theorem Alk.places {X Y : Spc} (h : Alk X Y) (a : Int) : Y.places a = X.places a := by
  unfold Spc.places
  rw [h.at_, h.cnt]
  unfold stepsL
  rw [h.r, h.c]
theorem Alk.rest {X Y : Spc} (h : Alk X Y) (k : Int) : Y.rest k = X.rest k := by
  unfold Spc.rest
  rw [h.c]
theorem Alk.row {X Y : Spc} (h : Alk X Y) (n : Int) : Y.row n = X.row n := by
  unfold Spc.row Spc.rowN
  rw [h.rest, h.r, h.c]
  congr 3
  funext i
  exact h.at_ _
theorem Alk.restL {X Y : Spc} (h : Alk X Y) (n : Int) : Y.restL n = X.restL n := by
  unfold Spc.restL
  rw [h.start, h.places, h.r, h.c]
theorem chs_alk (X : Spc) (g : Nat → Int) : Alk X (chs X g) := ⟨rfl, rfl, chs_len X g, chs_isA X g⟩
theorem at_set14 {X : Spc} (ok : X.Ok) (n m : Int) (c : Cl) : (X.set n c).at_ m = if m % (X.r * X.c) = n % (X.r * X.c) then c.fit else X.at_ m := by
  obtain ⟨e1, h1⟩ := ok.wrap n
  obtain ⟨e2, h2⟩ := ok.wrap m
  have e : (X.set n c).at_ m = (X.L.set (X.wrap n) c.fit).getD (X.wrap m) Cl.zero := rfl
  rw [e, e1, e2]
  by_cases h : X.wrap m = X.wrap n
  · rw [if_pos (by omega), h, List.getD, List.getElem?_set_self h1]; rfl
  · rw [if_neg (by omega), List.getD, List.getElem?_set_ne (fun e => h e.symm)]; rfl
theorem at_put14 {X : Spc} (ok : X.Ok) (n m x : Int) : (X.put n x).at_ m = if m % (X.r * X.c) = n % (X.r * X.c) then putC (X.at_ n) x else X.at_ m := by
  obtain ⟨e1, h1⟩ := ok.wrap n
  obtain ⟨e2, h2⟩ := ok.wrap m
  have e : (X.put n x).at_ m = (X.L.set (X.wrap n) (putC (X.at_ n) x)).getD (X.wrap m) Cl.zero := rfl
  rw [e, e1, e2]
  by_cases h : X.wrap m = X.wrap n
  · rw [if_pos (by omega), h, List.getD, List.getElem?_set_self h1]; rfl
  · rw [if_neg (by omega), List.getD, List.getElem?_set_ne (fun e => h e.symm)]; rfl
theorem start_attr {X : Spc} (ok : X.Ok) {n : Int} (h : 0 ≤ X.start n) : X.isA (X.start n) = true := by
  have hp : 0 < attrsN X.L := by
    by_cases hh : 0 < attrsN X.L
    · exact hh
    · rw [start_none ok n hh] at h; omega
  obtain ⟨d, h1, h2, h3, h4⟩ := back_some ok n hp
  rw [start_some h1, Spc.isA_emod]; exact h3
theorem modify_at {X : Spc} (ok : X.Ok) (n m : Int) : (X.modify n).at_ m = if 0 ≤ X.start n ∧ m % (X.r * X.c) = X.start n then (X.at_ (X.start n)).mark.fit else X.at_ m := by
  unfold Spc.modify
  by_cases h : 0 ≤ X.start n
  · rw [if_pos h, at_set14 ok]
    have hr := start_range ok n
    have e : X.start n % (X.r * X.c) = X.start n := by
      rcases hr with hr | hr
      · omega
      · exact Int.emod_eq_of_lt hr.1 hr.2
    rw [e]
    by_cases h2 : m % (X.r * X.c) = X.start n
    · rw [if_pos h2, if_pos ⟨h, h2⟩]
    · rw [if_neg h2, if_neg (fun e => h2 e.2)]
  · rw [if_neg h, if_neg (fun e => h e.1)]
theorem modify_isA {X : Spc} (ok : X.Ok) (n m : Int) : (X.modify n).isA m = X.isA m := by
  unfold Spc.isA
  rw [modify_at ok]
  split
  · rename_i h
    rw [Cl.fit_at]
    have h1 := start_attr ok h.1
    unfold Spc.isA at h1
    have h2 : X.at_ m = X.at_ (X.start n) := by rw [← h.2, Spc.at_emod]
    rw [h2]; rfl
  · rfl
theorem modify_len (X : Spc) (n : Int) : (X.modify n).L.length = X.L.length := by
  unfold Spc.modify
  split
  · exact Spc.set_len _ _ _
  · rfl
theorem modify_rc (X : Spc) (n : Int) : (X.modify n).r = X.r ∧ (X.modify n).c = X.c ∧ (X.modify n).cur = X.cur := by
  unfold Spc.modify
  split <;> exact ⟨rfl, rfl, rfl⟩
theorem modify_alk {X : Spc} (ok : X.Ok) (n : Int) : Alk X (X.modify n) := ⟨(modify_rc X n).1, (modify_rc X n).2.1, modify_len X n, modify_isA ok n⟩
/-- a cell that is no attribute is as it was -/
theorem modify_na {X : Spc} (ok : X.Ok) {n m : Int} (h : X.isA m = false) : (X.modify n).at_ m = X.at_ m := by
  rw [modify_at ok, if_neg]
  rintro ⟨h1, h2⟩
  have h3 := start_attr ok h1
  rw [← h2, Spc.isA_emod, h] at h3
  cases h3
end Go.Proofs.Ytjokcfenncogkaa
