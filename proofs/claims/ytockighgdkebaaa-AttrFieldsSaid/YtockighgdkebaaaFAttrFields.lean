/-
  The given statement of AttrFields: for every input it returns true and leaves its arguments as they were. No condition.
-/
import Derived.Test.YtockighgdkebaaaLaw05a
import Derived.Test.YtockighgdkebaaaOpen
namespace Go.Proofs.Ytockighgdkebaaa.attrFields
open Go.ChangeShapes Go.WideShapes Go.ChangeAt Go.RowKit Go.Joins Go.Deep
open Go.ChangeMaps (open_string shut_string)
set_option linter.unusedVariables false
set_option linter.unusedSimpArgs false

set_option maxRecDepth 100000 in
theorem lifted (os : Os) (started : os.Started) (H : Type) (enc : TypeId × Value → H) :
    ReturnsInHanded {} Try.checked os 3 .any (Rows.attrFieldsSpec.pre6 enc Try.prog Try.f3 Rows.attrFieldsRow.domain false) (Rows.attrFieldsSpec.post enc Try.prog Try.f3 false true false false) := by
  refine returnsInHanded_of_change (C := Try.checked) own started (by kernel_rfl) Try.func3
    (ChangeSpec.witness6 (enc := enc) (C := Try.checked) false ⟨#[], #[.agg #[.bool false, .bool false, .int .i64 0, .bool false], .int .u8 0], []⟩ 8 (by kernel_rfl) (by kernel_rfl) (by kernel_rfl) (by kernel_rfl)) ?_
  intro W base args ds gs before hval0 hW hcnd _
  have hval : ∀ (j : Nat) t v, Try.f3.params[j]? = some t → args[j]? = some v → Value.okWide Try.prog W .any base t v := hval0
  have hW' := hW
  obtain ⟨p, q, hA0, hV, rfl, hfz, hnd⟩ := hW
  have hA : DataW.TrodAll enc Try.prog W 0 (fun _ => true) true Try.f3.params.toList args.toList ds p := hA0
  rw [Try.params3] at hA hval
  obtain ⟨v0, vs0, d0, ds0, p0, q0, hargs, rfl, rfl, h0, r0⟩ := trodAll_cons hA
  obtain ⟨v1, vs1, d1, ds1, p1, q1, rfl, rfl, rfl, h1, r1⟩ := trodAll_cons r0
  obtain ⟨rfl, rfl, rfl⟩ := trodAll_nil r1
  obtain rfl : args = #[v0, v1] := by cases args; simp_all
  obtain ⟨rfl, rfl⟩ := trodVars_none hV
  have k0 := h0
  have lt0 : ∀ x ∈ p0, x.block < W.heap.size := by obtain ⟨m, hm⟩ := k0; exact DataW.trod_lt m _ _ _ hm
  obtain ⟨cs0, m0, rfl, hl0, hg0⟩ := open_fields Try.underlying23 (by kernel_rfl) (by kernel_rfl) (hval 0 23 v0 rfl rfl) h0
  obtain ⟨c1, c2, c3, c4, rfl⟩ := len4 (hl0.trans rfl)
  obtain ⟨q_t5, y_t5, e_t5, t5⟩ := hg0 0 _ rfl
  obtain rfl : c1 = q_t5 := by simpa using e_t5
  obtain ⟨a6, e_a6, _⟩ := DataW.trod_bool Try.underlying4 t5
  obtain rfl : c1 = _ := by simpa using e_a6
  obtain ⟨q_t7, y_t7, e_t7, t7⟩ := hg0 1 _ rfl
  obtain rfl : c2 = q_t7 := by simpa using e_t7
  obtain ⟨a8, e_a8, _⟩ := DataW.trod_bool Try.underlying4 t7
  obtain rfl : c2 = _ := by simpa using e_a8
  obtain ⟨q_t9, y_t9, e_t9, t9⟩ := hg0 2 _ rfl
  obtain rfl : c3 = q_t9 := by simpa using e_t9
  obtain ⟨a10, e_a10, _, w_a10⟩ := DataW.trod_int Try.underlying3 t9
  obtain rfl : c3 = _ := by simpa using e_a10
  have b_a10 : -9223372036854775808 ≤ a10 ∧ a10 ≤ 9223372036854775807 := by simpa [Lit.wf, IntKind.min, IntKind.max, IntKind.signed, IntKind.bits] using w_a10
  obtain ⟨q_t11, y_t11, e_t11, t11⟩ := hg0 3 _ rfl
  obtain rfl : c4 = q_t11 := by simpa using e_t11
  obtain ⟨a12, e_a12, _⟩ := DataW.trod_bool Try.underlying4 t11
  obtain rfl : c4 = _ := by simpa using e_a12
  have k1 := h1
  have lt1 : ∀ x ∈ p1, x.block < W.heap.size := by obtain ⟨m, hm⟩ := k1; exact DataW.trod_lt m _ _ _ hm
  obtain ⟨a13, rfl, _, _, w_a13⟩ := open_int Try.underlying5 (hval 1 5 v1 rfl rfl) h1
  have b_a13 : 0 ≤ a13 ∧ a13 ≤ 255 := by simpa [Lit.wf, IntKind.min, IntKind.max, IntKind.signed, IntKind.bits] using w_a13
  clear hA0 hval0
  refine (law_fields a6 a8 a10 a12 a13 W b_a10.1 b_a10.2 b_a13.1 b_a13.2).mono fun e W' ⟨he, hup⟩ => ?_
  have bel : Below W.heap.size W W' := hup
  subst he
  exact ⟨_, rfl, _, _, _, [], _, [], hW', trodAll_mk1 (shut_bool Try.underlying4 _), (trodAll_cons_mk (Below.trod laidOut (by kernel_rfl) (of_decide_eq_true (by kernel_rfl)) k0 bel lt0) (trodAll_cons_mk (Below.trod laidOut (by kernel_rfl) (of_decide_eq_true (by kernel_rfl)) k1 bel lt1) trodAll_mk0)), rfl, bel.frame _, fun h => by cases h⟩

theorem over : Rows.attrFieldsRow.holds Try.pinned (OpenSpec.ofChange Rows.attrFieldsSpec) :=
  OpenClaim.holds_of_wide 3 Try.f3 rfl rfl rfl rfl rfl rfl rfl ⟨rfl, rfl, rfl, rfl, rfl⟩ rfl rfl rfl rfl rfl (by kernel_rfl) Try.func3 (by kernel_rfl)
    (of_decide_eq_true (by kernel_rfl)) (by unfold Func.isWrapper; first | (rw [if_pos (by decide +kernel)]; kernel_rfl) | (rw [if_neg (by decide +kernel)]; exact ⟨rfl, rfl⟩))
    (fun os started H enc _ => lifted os started H enc)

theorem proved : Rows.AttrFieldsSaid := over
#print axioms proved
end Go.Proofs.Ytockighgdkebaaa.attrFields
