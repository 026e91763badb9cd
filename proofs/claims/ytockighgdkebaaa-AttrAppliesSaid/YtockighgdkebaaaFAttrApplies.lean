/-
  The given statement of AttrApplies: for every input it returns true and leaves its arguments as they were. No condition.
-/
import Derived.Test.YtockighgdkebaaaLaw05b
import Derived.Test.YtockighgdkebaaaOpen
namespace Go.Proofs.Ytockighgdkebaaa.attrApplies
open Go.ChangeShapes Go.WideShapes Go.ChangeAt Go.RowKit Go.Joins Go.Deep
open Go.ChangeMaps (open_string shut_string)
set_option linter.unusedVariables false
set_option linter.unusedSimpArgs false

set_option maxRecDepth 100000 in
theorem lifted (os : Os) (started : os.Started) (H : Type) (enc : TypeId × Value → H) :
    ReturnsInHanded {} Try.checked os 4 .any (Rows.attrAppliesSpec.pre6 enc Try.prog Try.f4 Rows.attrAppliesRow.domain false) (Rows.attrAppliesSpec.post enc Try.prog Try.f4 false true false false) := by
  refine returnsInHanded_of_change (C := Try.checked) own started (by kernel_rfl) Try.func4
    (ChangeSpec.witness6 (enc := enc) (C := Try.checked) false ⟨#[], #[.agg #[.int .u8 0, .int .u8 0], .agg #[.int .u8 0, .bool false, .int .u8 0, .int .u8 0, .int .u8 0, .int .u8 0]], []⟩ 8 (by kernel_rfl) (by kernel_rfl) (by kernel_rfl) (by kernel_rfl)) ?_
  intro W base args ds gs before hval0 hW hcnd _
  have hval : ∀ (j : Nat) t v, Try.f4.params[j]? = some t → args[j]? = some v → Value.okWide Try.prog W .any base t v := hval0
  have hW' := hW
  obtain ⟨p, q, hA0, hV, rfl, hfz, hnd⟩ := hW
  have hA : DataW.TrodAll enc Try.prog W 0 (fun _ => true) true Try.f4.params.toList args.toList ds p := hA0
  rw [Try.params4] at hA hval
  obtain ⟨v0, vs0, d0, ds0, p0, q0, hargs, rfl, rfl, h0, r0⟩ := trodAll_cons hA
  obtain ⟨v1, vs1, d1, ds1, p1, q1, rfl, rfl, rfl, h1, r1⟩ := trodAll_cons r0
  obtain ⟨rfl, rfl, rfl⟩ := trodAll_nil r1
  obtain rfl : args = #[v0, v1] := by cases args; simp_all
  obtain ⟨rfl, rfl⟩ := trodVars_none hV
  have k0 := h0
  have lt0 : ∀ x ∈ p0, x.block < W.heap.size := by obtain ⟨m, hm⟩ := k0; exact DataW.trod_lt m _ _ _ hm
  obtain ⟨cs0, m0, rfl, hl0, hg0⟩ := open_fields Try.underlying36 (by kernel_rfl) (by kernel_rfl) (hval 0 36 v0 rfl rfl) h0
  obtain ⟨c1, c2, rfl⟩ := len2 (hl0.trans rfl)
  obtain ⟨q_t3, y_t3, e_t3, t3⟩ := hg0 0 _ rfl
  obtain rfl : c1 = q_t3 := by simpa using e_t3
  obtain ⟨a4, e_a4, _, w_a4⟩ := DataW.trod_int Try.underlying5 t3
  obtain rfl : c1 = _ := by simpa using e_a4
  have b_a4 : 0 ≤ a4 ∧ a4 ≤ 255 := by simpa [Lit.wf, IntKind.min, IntKind.max, IntKind.signed, IntKind.bits] using w_a4
  obtain ⟨q_t5, y_t5, e_t5, t5⟩ := hg0 1 _ rfl
  obtain rfl : c2 = q_t5 := by simpa using e_t5
  obtain ⟨a6, e_a6, _, w_a6⟩ := DataW.trod_int Try.underlying5 t5
  obtain rfl : c2 = _ := by simpa using e_a6
  have b_a6 : 0 ≤ a6 ∧ a6 ≤ 255 := by simpa [Lit.wf, IntKind.min, IntKind.max, IntKind.signed, IntKind.bits] using w_a6
  have k1 := h1
  have lt1 : ∀ x ∈ p1, x.block < W.heap.size := by obtain ⟨m, hm⟩ := k1; exact DataW.trod_lt m _ _ _ hm
  obtain ⟨cs1, m1, rfl, hl1, hg1⟩ := open_fields Try.underlying38 (by kernel_rfl) (by kernel_rfl) (hval 1 38 v1 rfl rfl) h1
  obtain ⟨c7, c8, c9, c10, c11, c12, rfl⟩ := len6 (hl1.trans rfl)
  obtain ⟨q_t13, y_t13, e_t13, t13⟩ := hg1 0 _ rfl
  obtain rfl : c7 = q_t13 := by simpa using e_t13
  obtain ⟨a14, e_a14, _, w_a14⟩ := DataW.trod_int Try.underlying5 t13
  obtain rfl : c7 = _ := by simpa using e_a14
  have b_a14 : 0 ≤ a14 ∧ a14 ≤ 255 := by simpa [Lit.wf, IntKind.min, IntKind.max, IntKind.signed, IntKind.bits] using w_a14
  obtain ⟨q_t15, y_t15, e_t15, t15⟩ := hg1 1 _ rfl
  obtain rfl : c8 = q_t15 := by simpa using e_t15
  obtain ⟨a16, e_a16, _⟩ := DataW.trod_bool Try.underlying4 t15
  obtain rfl : c8 = _ := by simpa using e_a16
  obtain ⟨q_t17, y_t17, e_t17, t17⟩ := hg1 2 _ rfl
  obtain rfl : c9 = q_t17 := by simpa using e_t17
  obtain ⟨a18, e_a18, _, w_a18⟩ := DataW.trod_int Try.underlying5 t17
  obtain rfl : c9 = _ := by simpa using e_a18
  have b_a18 : 0 ≤ a18 ∧ a18 ≤ 255 := by simpa [Lit.wf, IntKind.min, IntKind.max, IntKind.signed, IntKind.bits] using w_a18
  obtain ⟨q_t19, y_t19, e_t19, t19⟩ := hg1 3 _ rfl
  obtain rfl : c10 = q_t19 := by simpa using e_t19
  obtain ⟨a20, e_a20, _, w_a20⟩ := DataW.trod_int Try.underlying5 t19
  obtain rfl : c10 = _ := by simpa using e_a20
  have b_a20 : 0 ≤ a20 ∧ a20 ≤ 255 := by simpa [Lit.wf, IntKind.min, IntKind.max, IntKind.signed, IntKind.bits] using w_a20
  obtain ⟨q_t21, y_t21, e_t21, t21⟩ := hg1 4 _ rfl
  obtain rfl : c11 = q_t21 := by simpa using e_t21
  obtain ⟨a22, e_a22, _, w_a22⟩ := DataW.trod_int Try.underlying5 t21
  obtain rfl : c11 = _ := by simpa using e_a22
  have b_a22 : 0 ≤ a22 ∧ a22 ≤ 255 := by simpa [Lit.wf, IntKind.min, IntKind.max, IntKind.signed, IntKind.bits] using w_a22
  obtain ⟨q_t23, y_t23, e_t23, t23⟩ := hg1 5 _ rfl
  obtain rfl : c12 = q_t23 := by simpa using e_t23
  obtain ⟨a24, e_a24, _, w_a24⟩ := DataW.trod_int Try.underlying5 t23
  obtain rfl : c12 = _ := by simpa using e_a24
  have b_a24 : 0 ≤ a24 ∧ a24 ≤ 255 := by simpa [Lit.wf, IntKind.min, IntKind.max, IntKind.signed, IntKind.bits] using w_a24
  clear hA0 hval0
  refine (law_applies a4 a6 a14 a16 a18 a20 a22 a24 W b_a4.1 b_a4.2 b_a6.1 b_a6.2 b_a14.1 b_a14.2 b_a18.1 b_a18.2 b_a20.1 b_a20.2 b_a22.1 b_a22.2 b_a24.1 b_a24.2).mono fun e W' ⟨he, hup⟩ => ?_
  have bel : Below W.heap.size W W' := hup
  subst he
  exact ⟨_, rfl, _, _, _, [], _, [], hW', trodAll_mk1 (shut_bool Try.underlying4 _), (trodAll_cons_mk (Below.trod laidOut (by kernel_rfl) (of_decide_eq_true (by kernel_rfl)) k0 bel lt0) (trodAll_cons_mk (Below.trod laidOut (by kernel_rfl) (of_decide_eq_true (by kernel_rfl)) k1 bel lt1) trodAll_mk0)), rfl, bel.frame _, fun h => by cases h⟩

theorem over : Rows.attrAppliesRow.holds Try.pinned (OpenSpec.ofChange Rows.attrAppliesSpec) :=
  OpenClaim.holds_of_wide 4 Try.f4 rfl rfl rfl rfl rfl rfl rfl ⟨rfl, rfl, rfl, rfl, rfl⟩ rfl rfl rfl rfl rfl (by kernel_rfl) Try.func4 (by kernel_rfl)
    (of_decide_eq_true (by kernel_rfl)) (by unfold Func.isWrapper; first | (rw [if_pos (by decide +kernel)]; kernel_rfl) | (rw [if_neg (by decide +kernel)]; exact ⟨rfl, rfl⟩))
    (fun os started H enc _ => lifted os started H enc)

theorem proved : Rows.AttrAppliesSaid := over
#print axioms proved
end Go.Proofs.Ytockighgdkebaaa.attrApplies
