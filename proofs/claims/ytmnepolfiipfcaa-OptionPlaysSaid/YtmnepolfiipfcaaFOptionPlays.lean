/-
  The given statement of OptionPlays: for every input it returns true and leaves its arguments as they were. No condition.
-/
import Derived.Test.YtmnepolfiipfcaaLaw08e
import Derived.Test.YtmnepolfiipfcaaOpen
namespace Go.Proofs.Ytmnepolfiipfcaa.optionPlays
open Go.ChangeShapes Go.WideShapes Go.ChangeAt Go.RowKit Go.Joins Go.Deep
open Go.ChangeMaps (open_string shut_string)
set_option linter.unusedVariables false
set_option linter.unusedSimpArgs false

set_option maxRecDepth 100000 in
theorem lifted (os : Os) (started : os.Started) (H : Type) (enc : TypeId × Value → H) :
    ReturnsInHanded {} Try.checked os 7 .any (Rows.optionPlaysSpec.pre6 enc Try.prog Try.f7 Rows.optionPlaysRow.domain false) (Rows.optionPlaysSpec.post enc Try.prog Try.f7 false true false false) := by
  refine returnsInHanded_of_change (C := Try.checked) own started (by kernel_rfl) Try.func7
    (ChangeSpec.witness6 (enc := enc) (C := Try.checked) false ⟨#[], #[.slice none 0 0, .slice none 0 0, .slice none 0 0], []⟩ 8 (by kernel_rfl) (by kernel_rfl) (by kernel_rfl) (by kernel_rfl)) ?_
  intro W base args ds gs before hval0 hW hcnd _
  have hval : ∀ (j : Nat) t v, Try.f7.params[j]? = some t → args[j]? = some v → Value.okWide Try.prog W .any base t v := hval0
  have hW' := hW
  obtain ⟨p, q, hA0, hV, rfl, hfz, hnd⟩ := hW
  have hA : DataW.TrodAll enc Try.prog W 0 (fun _ => true) true Try.f7.params.toList args.toList ds p := hA0
  rw [Try.params7] at hA hval
  obtain ⟨v0, vs0, d0, ds0, p0, q0, hargs, rfl, rfl, h0, r0⟩ := trodAll_cons hA
  obtain ⟨v1, vs1, d1, ds1, p1, q1, rfl, rfl, rfl, h1, r1⟩ := trodAll_cons r0
  obtain ⟨v2, vs2, d2, ds2, p2, q2, rfl, rfl, rfl, h2, r2⟩ := trodAll_cons r1
  obtain ⟨rfl, rfl, rfl⟩ := trodAll_nil r2
  obtain rfl : args = #[v0, v1, v2] := by cases args; simp_all
  obtain ⟨rfl, rfl⟩ := trodVars_none hV
  have k0 := h0
  have lt0 : ∀ x ∈ p0, x.block < W.heap.size := by obtain ⟨m, hm⟩ := k0; exact DataW.trod_lt m _ _ _ hm
  obtain ⟨A1, n2, c3, rfl⟩ := okWide_slice Try.underlying22 (hval 0 22 v0 rfl rfl)
  obtain ⟨L4, hl_L4, hn_L4, hc_L4, hw_L4, hr_L4⟩ : ∃ l : List Int, l.length = n2 ∧ n2 ≤ c3 ∧ c3 ≤ maxLen ∧ (∀ x ∈ l, 0 ≤ x ∧ x ≤ 255) ∧ Reads W W.heap.size 1 A1 n2 (l.map (Value.int .u8)) := by
    obtain ⟨fuel, hf⟩ := h0
    exact open_bytes (k := .u8) (lo := 0) (hi := 255) Try.underlying22 Try.underlying5 (by kernel_rfl) (fun x hx => by simpa [Lit.wf, IntKind.min, IntKind.max, IntKind.signed, IntKind.bits] using hx) hf
  have k1 := h1
  have lt1 : ∀ x ∈ p1, x.block < W.heap.size := by obtain ⟨m, hm⟩ := k1; exact DataW.trod_lt m _ _ _ hm
  obtain ⟨A5, n6, c7, rfl⟩ := okWide_slice Try.underlying22 (hval 1 22 v1 rfl rfl)
  obtain ⟨L8, hl_L8, hn_L8, hc_L8, hw_L8, hr_L8⟩ : ∃ l : List Int, l.length = n6 ∧ n6 ≤ c7 ∧ c7 ≤ maxLen ∧ (∀ x ∈ l, 0 ≤ x ∧ x ≤ 255) ∧ Reads W W.heap.size 1 A5 n6 (l.map (Value.int .u8)) := by
    obtain ⟨fuel, hf⟩ := h1
    exact open_bytes (k := .u8) (lo := 0) (hi := 255) Try.underlying22 Try.underlying5 (by kernel_rfl) (fun x hx => by simpa [Lit.wf, IntKind.min, IntKind.max, IntKind.signed, IntKind.bits] using hx) hf
  have k2 := h2
  have lt2 : ∀ x ∈ p2, x.block < W.heap.size := by obtain ⟨m, hm⟩ := k2; exact DataW.trod_lt m _ _ _ hm
  obtain ⟨A9, n10, c11, rfl⟩ := okWide_slice Try.underlying23 (hval 2 23 v2 rfl rfl)
  obtain ⟨L12, hl_L12, hn_L12, hc_L12, hw_L12, hr_L12⟩ : ∃ l : List (Bool × Int × Int × Int × Bool), l.length = n10 ∧ n10 ≤ c11 ∧ c11 ≤ maxLen ∧ (∀ x ∈ l, 0 ≤ x.2.1 ∧ x.2.1 ≤ 255 ∧ 0 ≤ x.2.2.1 ∧ x.2.2.1 ≤ 255 ∧ -9223372036854775808 ≤ x.2.2.2.1 ∧ x.2.2.2.1 ≤ 9223372036854775807) ∧ Reads W W.heap.size 5 A9 n10 (l.flatMap (fun x : Bool × Int × Int × Int × Bool => [.bool x.1, .int .u8 x.2.1, .int .u8 x.2.2.1, .int .i64 x.2.2.2.1, .bool x.2.2.2.2])) := by
    obtain ⟨fuel, hf⟩ := h2
    refine open_structs (k := 5) (enc' := fun x : Bool × Int × Int × Int × Bool => [.bool x.1, .int .u8 x.2.1, .int .u8 x.2.2.1, .int .i64 x.2.2.2.1, .bool x.2.2.2.2]) (Q := fun x => 0 ≤ x.2.1 ∧ x.2.1 ≤ 255 ∧ 0 ≤ x.2.2.1 ∧ x.2.2.1 ≤ 255 ∧ -9223372036854775808 ≤ x.2.2.2.1 ∧ x.2.2.2.1 ≤ 9223372036854775807) Try.underlying23 Try.underlying29 (by kernel_rfl) (by kernel_rfl) (by decide) rfl (fun x => rfl) hf ?_
    intro cs m hl hg
    obtain ⟨c13, c14, c15, c16, c17, rfl⟩ := len5 hl
    obtain ⟨q_t18, y_t18, e_t18, t18⟩ := hg 0 _ rfl
    obtain rfl : c13 = q_t18 := by simpa using e_t18
    obtain ⟨a19, e_a19, _⟩ := DataW.trod_bool Try.underlying4 t18
    obtain rfl : c13 = _ := by simpa using e_a19
    obtain ⟨q_t20, y_t20, e_t20, t20⟩ := hg 1 _ rfl
    obtain rfl : c14 = q_t20 := by simpa using e_t20
    obtain ⟨a21, e_a21, _, w_a21⟩ := DataW.trod_int Try.underlying5 t20
    obtain rfl : c14 = _ := by simpa using e_a21
    have b_a21 : 0 ≤ a21 ∧ a21 ≤ 255 := by simpa [Lit.wf, IntKind.min, IntKind.max, IntKind.signed, IntKind.bits] using w_a21
    obtain ⟨q_t22, y_t22, e_t22, t22⟩ := hg 2 _ rfl
    obtain rfl : c15 = q_t22 := by simpa using e_t22
    obtain ⟨a23, e_a23, _, w_a23⟩ := DataW.trod_int Try.underlying5 t22
    obtain rfl : c15 = _ := by simpa using e_a23
    have b_a23 : 0 ≤ a23 ∧ a23 ≤ 255 := by simpa [Lit.wf, IntKind.min, IntKind.max, IntKind.signed, IntKind.bits] using w_a23
    obtain ⟨q_t24, y_t24, e_t24, t24⟩ := hg 3 _ rfl
    obtain rfl : c16 = q_t24 := by simpa using e_t24
    obtain ⟨a25, e_a25, _, w_a25⟩ := DataW.trod_int Try.underlying3 t24
    obtain rfl : c16 = _ := by simpa using e_a25
    have b_a25 : -9223372036854775808 ≤ a25 ∧ a25 ≤ 9223372036854775807 := by simpa [Lit.wf, IntKind.min, IntKind.max, IntKind.signed, IntKind.bits] using w_a25
    obtain ⟨q_t26, y_t26, e_t26, t26⟩ := hg 4 _ rfl
    obtain rfl : c17 = q_t26 := by simpa using e_t26
    obtain ⟨a27, e_a27, _⟩ := DataW.trod_bool Try.underlying4 t26
    obtain rfl : c17 = _ := by simpa using e_a27
    exact ⟨(a19, a21, a23, a25, a27), ⟨b_a21.1, b_a21.2, b_a23.1, b_a23.2, b_a25.1, b_a25.2⟩, rfl⟩
  clear hA0 hval0
  refine (law_plays A1 n2 c3 L4 A5 n6 c7 L8 A9 n10 c11 L12 W hl_L4 hn_L4 hc_L4 hw_L4 hr_L4 hl_L8 hn_L8 hc_L8 hw_L8 hr_L8 hl_L12 hn_L12 hc_L12 hw_L12 hr_L12).mono fun e W' ⟨he, hup⟩ => ?_
  have bel : Below W.heap.size W W' := hup
  subst he
  exact ⟨_, rfl, _, _, _, [], _, [], hW', trodAll_mk1 (shut_bool Try.underlying4 _), (trodAll_cons_mk (Below.trod laidOut (by kernel_rfl) (of_decide_eq_true (by kernel_rfl)) k0 bel lt0) (trodAll_cons_mk (Below.trod laidOut (by kernel_rfl) (of_decide_eq_true (by kernel_rfl)) k1 bel lt1) (trodAll_cons_mk (Below.trod laidOut (by kernel_rfl) (of_decide_eq_true (by kernel_rfl)) k2 bel lt2) trodAll_mk0))), rfl, bel.frame _, fun h => by cases h⟩

theorem over : Rows.optionPlaysRow.holds Try.pinned (OpenSpec.ofChange Rows.optionPlaysSpec) :=
  OpenClaim.holds_of_wide 7 Try.f7 rfl rfl rfl rfl rfl rfl rfl ⟨rfl, rfl, rfl, rfl, rfl⟩ rfl rfl rfl rfl rfl (by kernel_rfl) Try.func7 (by kernel_rfl)
    (of_decide_eq_true (by kernel_rfl)) (by unfold Func.isWrapper; first | (rw [if_pos (by decide +kernel)]; kernel_rfl) | (rw [if_neg (by decide +kernel)]; exact ⟨rfl, rfl⟩))
    (fun os started H enc _ => lifted os started H enc)

theorem proved : Rows.OptionPlaysSaid := over
#print axioms proved
end Go.Proofs.Ytmnepolfiipfcaa.optionPlays
