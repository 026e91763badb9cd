/-
  The given statement of OptionRests: for every input it returns true and leaves its arguments as they were. No condition.
-/
import Derived.Test.YtmnepolfiipfcaaLaw08f
import Derived.Test.YtmnepolfiipfcaaOpen
namespace Go.Proofs.Ytmnepolfiipfcaa.optionRests
open Go.ChangeShapes Go.WideShapes Go.ChangeAt Go.RowKit Go.Joins Go.Deep
open Go.ChangeMaps (open_string shut_string)
set_option linter.unusedVariables false
set_option linter.unusedSimpArgs false

set_option maxRecDepth 100000 in
theorem lifted (os : Os) (started : os.Started) (H : Type) (enc : TypeId × Value → H) :
    ReturnsInHanded {} Try.checked os 5 .any (Rows.optionRestsSpec.pre6 enc Try.prog Try.f5 Rows.optionRestsRow.domain false) (Rows.optionRestsSpec.post enc Try.prog Try.f5 false true false false) := by
  refine returnsInHanded_of_change (C := Try.checked) own started (by kernel_rfl) Try.func5
    (ChangeSpec.witness6 (enc := enc) (C := Try.checked) false ⟨#[], #[.slice none 0 0, .slice none 0 0, .slice none 0 0, .slice none 0 0, .slice none 0 0], []⟩ 8 (by kernel_rfl) (by kernel_rfl) (by kernel_rfl) (by kernel_rfl)) ?_
  intro W base args ds gs before hval0 hW hcnd _
  have hval : ∀ (j : Nat) t v, Try.f5.params[j]? = some t → args[j]? = some v → Value.okWide Try.prog W .any base t v := hval0
  have hW' := hW
  obtain ⟨p, q, hA0, hV, rfl, hfz, hnd⟩ := hW
  have hA : DataW.TrodAll enc Try.prog W 0 (fun _ => true) true Try.f5.params.toList args.toList ds p := hA0
  rw [Try.params5] at hA hval
  obtain ⟨v0, vs0, d0, ds0, p0, q0, hargs, rfl, rfl, h0, r0⟩ := trodAll_cons hA
  obtain ⟨v1, vs1, d1, ds1, p1, q1, rfl, rfl, rfl, h1, r1⟩ := trodAll_cons r0
  obtain ⟨v2, vs2, d2, ds2, p2, q2, rfl, rfl, rfl, h2, r2⟩ := trodAll_cons r1
  obtain ⟨v3, vs3, d3, ds3, p3, q3, rfl, rfl, rfl, h3, r3⟩ := trodAll_cons r2
  obtain ⟨v4, vs4, d4, ds4, p4, q4, rfl, rfl, rfl, h4, r4⟩ := trodAll_cons r3
  obtain ⟨rfl, rfl, rfl⟩ := trodAll_nil r4
  obtain rfl : args = #[v0, v1, v2, v3, v4] := by cases args; simp_all
  obtain ⟨rfl, rfl⟩ := trodVars_none hV
  have k0 := h0
  have lt0 : ∀ x ∈ p0, x.block < W.heap.size := by obtain ⟨m, hm⟩ := k0; exact DataW.trod_lt m _ _ _ hm
  obtain ⟨A1, n2, c3, rfl⟩ := okWide_slice Try.underlying22 (hval 0 22 v0 rfl rfl)
  obtain ⟨L4, hl_L4, hn_L4, hc_L4, hw_L4, hr_L4⟩ : ∃ l : List Int, l.length = n2 ∧ n2 ≤ c3 ∧ c3 ≤ maxLen ∧ (∀ x ∈ l, 0 ≤ x ∧ x ≤ 255) ∧ Reads W W.heap.size 1 A1 n2 (l.map (Value.int .u8)) := by
    obtain ⟨fuel, hf⟩ := h0
    exact open_bytes (k := .u8) (lo := 0) (hi := 255) Try.underlying22 Try.underlying5 (by kernel_rfl) (fun x hx => by simpa [Lit.wf, IntKind.min, IntKind.max, IntKind.signed, IntKind.bits] using hx) hf
  have k1 := h1
  have lt1 : ∀ x ∈ p1, x.block < W.heap.size := by obtain ⟨m, hm⟩ := k1; exact DataW.trod_lt m _ _ _ hm
  obtain ⟨A5, n6, c7, rfl⟩ := okWide_slice Try.underlying22 (hval 1 22 v1 rfl rfl)
  obtain ⟨L8, hl_L8, hn_L8, hc_L8, hw_L8, hr_L8⟩ : ∃ l : List Int, l.length = n6 ∧ n6 ≤ c7 ∧ c7 ≤ maxLen ∧ (∀ x ∈ l, 0 ≤ x ∧ x ≤ 255) ∧ Reads W W.heap.size 1 A5 n6 (l.map (Value.int .u8)) := by
    obtain ⟨fuel, hf⟩ := h1
    exact open_bytes (k := .u8) (lo := 0) (hi := 255) Try.underlying22 Try.underlying5 (by kernel_rfl) (fun x hx => by simpa [Lit.wf, IntKind.min, IntKind.max, IntKind.signed, IntKind.bits] using hx) hf
  have k2 := h2
  have lt2 : ∀ x ∈ p2, x.block < W.heap.size := by obtain ⟨m, hm⟩ := k2; exact DataW.trod_lt m _ _ _ hm
  obtain ⟨A9, n10, c11, rfl⟩ := okWide_slice Try.underlying22 (hval 2 22 v2 rfl rfl)
  obtain ⟨L12, hl_L12, hn_L12, hc_L12, hw_L12, hr_L12⟩ : ∃ l : List Int, l.length = n10 ∧ n10 ≤ c11 ∧ c11 ≤ maxLen ∧ (∀ x ∈ l, 0 ≤ x ∧ x ≤ 255) ∧ Reads W W.heap.size 1 A9 n10 (l.map (Value.int .u8)) := by
    obtain ⟨fuel, hf⟩ := h2
    exact open_bytes (k := .u8) (lo := 0) (hi := 255) Try.underlying22 Try.underlying5 (by kernel_rfl) (fun x hx => by simpa [Lit.wf, IntKind.min, IntKind.max, IntKind.signed, IntKind.bits] using hx) hf
  have k3 := h3
  have lt3 : ∀ x ∈ p3, x.block < W.heap.size := by obtain ⟨m, hm⟩ := k3; exact DataW.trod_lt m _ _ _ hm
  obtain ⟨A13, n14, c15, rfl⟩ := okWide_slice Try.underlying22 (hval 3 22 v3 rfl rfl)
  obtain ⟨L16, hl_L16, hn_L16, hc_L16, hw_L16, hr_L16⟩ : ∃ l : List Int, l.length = n14 ∧ n14 ≤ c15 ∧ c15 ≤ maxLen ∧ (∀ x ∈ l, 0 ≤ x ∧ x ≤ 255) ∧ Reads W W.heap.size 1 A13 n14 (l.map (Value.int .u8)) := by
    obtain ⟨fuel, hf⟩ := h3
    exact open_bytes (k := .u8) (lo := 0) (hi := 255) Try.underlying22 Try.underlying5 (by kernel_rfl) (fun x hx => by simpa [Lit.wf, IntKind.min, IntKind.max, IntKind.signed, IntKind.bits] using hx) hf
  have k4 := h4
  have lt4 : ∀ x ∈ p4, x.block < W.heap.size := by obtain ⟨m, hm⟩ := k4; exact DataW.trod_lt m _ _ _ hm
  obtain ⟨A17, n18, c19, rfl⟩ := okWide_slice Try.underlying43 (hval 4 43 v4 rfl rfl)
  obtain ⟨L20, hl_L20, hn_L20, hc_L20, hw_L20, hr_L20⟩ : ∃ l : List (Int × Bool × Int × Int × Bool), l.length = n18 ∧ n18 ≤ c19 ∧ c19 ≤ maxLen ∧ (∀ x ∈ l, 0 ≤ x.1 ∧ x.1 ≤ 255 ∧ 0 ≤ x.2.2.1 ∧ x.2.2.1 ≤ 255 ∧ 0 ≤ x.2.2.2.1 ∧ x.2.2.2.1 ≤ 255) ∧ Reads W W.heap.size 5 A17 n18 (l.flatMap (fun x : Int × Bool × Int × Int × Bool => [.int .u8 x.1, .bool x.2.1, .int .u8 x.2.2.1, .int .u8 x.2.2.2.1, .bool x.2.2.2.2])) := by
    obtain ⟨fuel, hf⟩ := h4
    refine open_structs (k := 5) (enc' := fun x : Int × Bool × Int × Int × Bool => [.int .u8 x.1, .bool x.2.1, .int .u8 x.2.2.1, .int .u8 x.2.2.2.1, .bool x.2.2.2.2]) (Q := fun x => 0 ≤ x.1 ∧ x.1 ≤ 255 ∧ 0 ≤ x.2.2.1 ∧ x.2.2.1 ≤ 255 ∧ 0 ≤ x.2.2.2.1 ∧ x.2.2.2.1 ≤ 255) Try.underlying43 Try.underlying50 (by kernel_rfl) (by kernel_rfl) (by decide) rfl (fun x => rfl) hf ?_
    intro cs m hl hg
    obtain ⟨c21, c22, c23, c24, c25, rfl⟩ := len5 hl
    obtain ⟨q_t26, y_t26, e_t26, t26⟩ := hg 0 _ rfl
    obtain rfl : c21 = q_t26 := by simpa using e_t26
    obtain ⟨a27, e_a27, _, w_a27⟩ := DataW.trod_int Try.underlying5 t26
    obtain rfl : c21 = _ := by simpa using e_a27
    have b_a27 : 0 ≤ a27 ∧ a27 ≤ 255 := by simpa [Lit.wf, IntKind.min, IntKind.max, IntKind.signed, IntKind.bits] using w_a27
    obtain ⟨q_t28, y_t28, e_t28, t28⟩ := hg 1 _ rfl
    obtain rfl : c22 = q_t28 := by simpa using e_t28
    obtain ⟨a29, e_a29, _⟩ := DataW.trod_bool Try.underlying4 t28
    obtain rfl : c22 = _ := by simpa using e_a29
    obtain ⟨q_t30, y_t30, e_t30, t30⟩ := hg 2 _ rfl
    obtain rfl : c23 = q_t30 := by simpa using e_t30
    obtain ⟨a31, e_a31, _, w_a31⟩ := DataW.trod_int Try.underlying5 t30
    obtain rfl : c23 = _ := by simpa using e_a31
    have b_a31 : 0 ≤ a31 ∧ a31 ≤ 255 := by simpa [Lit.wf, IntKind.min, IntKind.max, IntKind.signed, IntKind.bits] using w_a31
    obtain ⟨q_t32, y_t32, e_t32, t32⟩ := hg 3 _ rfl
    obtain rfl : c24 = q_t32 := by simpa using e_t32
    obtain ⟨a33, e_a33, _, w_a33⟩ := DataW.trod_int Try.underlying5 t32
    obtain rfl : c24 = _ := by simpa using e_a33
    have b_a33 : 0 ≤ a33 ∧ a33 ≤ 255 := by simpa [Lit.wf, IntKind.min, IntKind.max, IntKind.signed, IntKind.bits] using w_a33
    obtain ⟨q_t34, y_t34, e_t34, t34⟩ := hg 4 _ rfl
    obtain rfl : c25 = q_t34 := by simpa using e_t34
    obtain ⟨a35, e_a35, _⟩ := DataW.trod_bool Try.underlying4 t34
    obtain rfl : c25 = _ := by simpa using e_a35
    exact ⟨(a27, a29, a31, a33, a35), ⟨b_a27.1, b_a27.2, b_a31.1, b_a31.2, b_a33.1, b_a33.2⟩, rfl⟩
  clear hA0 hval0
  refine (law_rests A1 n2 c3 L4 A5 n6 c7 L8 A9 n10 c11 L12 A13 n14 c15 L16 A17 n18 c19 L20 W hl_L4 hn_L4 hc_L4 hw_L4 hr_L4 hl_L8 hn_L8 hc_L8 hw_L8 hr_L8 hl_L12 hn_L12 hc_L12 hw_L12 hr_L12 hl_L16 hn_L16 hc_L16 hw_L16 hr_L16 hl_L20 hn_L20 hc_L20 hw_L20 hr_L20).mono fun e W' ⟨he, hup⟩ => ?_
  have bel : Below W.heap.size W W' := hup
  subst he
  exact ⟨_, rfl, _, _, _, [], _, [], hW', trodAll_mk1 (shut_bool Try.underlying4 _), (trodAll_cons_mk (Below.trod laidOut (by kernel_rfl) (of_decide_eq_true (by kernel_rfl)) k0 bel lt0) (trodAll_cons_mk (Below.trod laidOut (by kernel_rfl) (of_decide_eq_true (by kernel_rfl)) k1 bel lt1) (trodAll_cons_mk (Below.trod laidOut (by kernel_rfl) (of_decide_eq_true (by kernel_rfl)) k2 bel lt2) (trodAll_cons_mk (Below.trod laidOut (by kernel_rfl) (of_decide_eq_true (by kernel_rfl)) k3 bel lt3) (trodAll_cons_mk (Below.trod laidOut (by kernel_rfl) (of_decide_eq_true (by kernel_rfl)) k4 bel lt4) trodAll_mk0))))), rfl, bel.frame _, fun h => by cases h⟩

theorem over : Rows.optionRestsRow.holds Try.pinned (OpenSpec.ofChange Rows.optionRestsSpec) :=
  OpenClaim.holds_of_wide 5 Try.f5 rfl rfl rfl rfl rfl rfl rfl ⟨rfl, rfl, rfl, rfl, rfl⟩ rfl rfl rfl rfl rfl (by kernel_rfl) Try.func5 (by kernel_rfl)
    (of_decide_eq_true (by kernel_rfl)) (by unfold Func.isWrapper; first | (rw [if_pos (by decide +kernel)]; kernel_rfl) | (rw [if_neg (by decide +kernel)]; exact ⟨rfl, rfl⟩))
    (fun os started H enc _ => lifted os started H enc)

theorem proved : Rows.OptionRestsSaid := over
#print axioms proved
end Go.Proofs.Ytmnepolfiipfcaa.optionRests
