/-
  The given statement of AttrMakes: for every input it returns true and leaves its arguments as they were. No condition.
-/
import Derived.Test.YtockighgdkebaaaLaw05e
import Derived.Test.YtockighgdkebaaaOpen
namespace Go.Proofs.Ytockighgdkebaaa.attrMakes
open Go.ChangeShapes Go.WideShapes Go.ChangeAt Go.RowKit Go.Joins Go.Deep
open Go.ChangeMaps (open_string shut_string)
set_option linter.unusedVariables false
set_option linter.unusedSimpArgs false

set_option maxRecDepth 100000 in
theorem lifted (os : Os) (started : os.Started) (H : Type) (enc : TypeId × Value → H) :
    ReturnsInHanded {} Try.checked os 7 .any (Rows.attrMakesSpec.pre6 enc Try.prog Try.f7 Rows.attrMakesRow.domain false) (Rows.attrMakesSpec.post enc Try.prog Try.f7 false true false false) := by
  refine returnsInHanded_of_change (C := Try.checked) own started (by kernel_rfl) Try.func7
    (ChangeSpec.witness6 (enc := enc) (C := Try.checked) false ⟨#[], #[.agg #[.int .u8 0, .bool false, .int .u8 0, .int .u8 0, .int .u8 0, .int .u8 0], .agg #[.int .u8 0, .bool false, .int .u8 0, .int .u8 0, .int .u8 0, .int .u8 0]], []⟩ 8 (by kernel_rfl) (by kernel_rfl) (by kernel_rfl) (by kernel_rfl)) ?_
  intro W base args ds gs before hval0 hW hcnd _
  have hval : ∀ (j : Nat) t v, Try.f7.params[j]? = some t → args[j]? = some v → Value.okWide Try.prog W .any base t v := hval0
  have hW' := hW
  obtain ⟨p, q, hA0, hV, rfl, hfz, hnd⟩ := hW
  have hA : DataW.TrodAll enc Try.prog W 0 (fun _ => true) true Try.f7.params.toList args.toList ds p := hA0
  rw [Try.params7] at hA hval
  obtain ⟨v0, vs0, d0, ds0, p0, q0, hargs, rfl, rfl, h0, r0⟩ := trodAll_cons hA
  obtain ⟨v1, vs1, d1, ds1, p1, q1, rfl, rfl, rfl, h1, r1⟩ := trodAll_cons r0
  obtain ⟨rfl, rfl, rfl⟩ := trodAll_nil r1
  obtain rfl : args = #[v0, v1] := by cases args; simp_all
  obtain ⟨rfl, rfl⟩ := trodVars_none hV
  have k0 := h0
  have lt0 : ∀ x ∈ p0, x.block < W.heap.size := by obtain ⟨m, hm⟩ := k0; exact DataW.trod_lt m _ _ _ hm
  obtain ⟨cs0, m0, rfl, hl0, hg0⟩ := open_fields Try.underlying38 (by kernel_rfl) (by kernel_rfl) (hval 0 38 v0 rfl rfl) h0
  obtain ⟨c1, c2, c3, c4, c5, c6, rfl⟩ := len6 (hl0.trans rfl)
  obtain ⟨q_t7, y_t7, e_t7, t7⟩ := hg0 0 _ rfl
  obtain rfl : c1 = q_t7 := by simpa using e_t7
  obtain ⟨a8, e_a8, _, w_a8⟩ := DataW.trod_int Try.underlying5 t7
  obtain rfl : c1 = _ := by simpa using e_a8
  have b_a8 : 0 ≤ a8 ∧ a8 ≤ 255 := by simpa [Lit.wf, IntKind.min, IntKind.max, IntKind.signed, IntKind.bits] using w_a8
  obtain ⟨q_t9, y_t9, e_t9, t9⟩ := hg0 1 _ rfl
  obtain rfl : c2 = q_t9 := by simpa using e_t9
  obtain ⟨a10, e_a10, _⟩ := DataW.trod_bool Try.underlying4 t9
  obtain rfl : c2 = _ := by simpa using e_a10
  obtain ⟨q_t11, y_t11, e_t11, t11⟩ := hg0 2 _ rfl
  obtain rfl : c3 = q_t11 := by simpa using e_t11
  obtain ⟨a12, e_a12, _, w_a12⟩ := DataW.trod_int Try.underlying5 t11
  obtain rfl : c3 = _ := by simpa using e_a12
  have b_a12 : 0 ≤ a12 ∧ a12 ≤ 255 := by simpa [Lit.wf, IntKind.min, IntKind.max, IntKind.signed, IntKind.bits] using w_a12
  obtain ⟨q_t13, y_t13, e_t13, t13⟩ := hg0 3 _ rfl
  obtain rfl : c4 = q_t13 := by simpa using e_t13
  obtain ⟨a14, e_a14, _, w_a14⟩ := DataW.trod_int Try.underlying5 t13
  obtain rfl : c4 = _ := by simpa using e_a14
  have b_a14 : 0 ≤ a14 ∧ a14 ≤ 255 := by simpa [Lit.wf, IntKind.min, IntKind.max, IntKind.signed, IntKind.bits] using w_a14
  obtain ⟨q_t15, y_t15, e_t15, t15⟩ := hg0 4 _ rfl
  obtain rfl : c5 = q_t15 := by simpa using e_t15
  obtain ⟨a16, e_a16, _, w_a16⟩ := DataW.trod_int Try.underlying5 t15
  obtain rfl : c5 = _ := by simpa using e_a16
  have b_a16 : 0 ≤ a16 ∧ a16 ≤ 255 := by simpa [Lit.wf, IntKind.min, IntKind.max, IntKind.signed, IntKind.bits] using w_a16
  obtain ⟨q_t17, y_t17, e_t17, t17⟩ := hg0 5 _ rfl
  obtain rfl : c6 = q_t17 := by simpa using e_t17
  obtain ⟨a18, e_a18, _, w_a18⟩ := DataW.trod_int Try.underlying5 t17
  obtain rfl : c6 = _ := by simpa using e_a18
  have b_a18 : 0 ≤ a18 ∧ a18 ≤ 255 := by simpa [Lit.wf, IntKind.min, IntKind.max, IntKind.signed, IntKind.bits] using w_a18
  have k1 := h1
  have lt1 : ∀ x ∈ p1, x.block < W.heap.size := by obtain ⟨m, hm⟩ := k1; exact DataW.trod_lt m _ _ _ hm
  obtain ⟨cs1, m1, rfl, hl1, hg1⟩ := open_fields Try.underlying38 (by kernel_rfl) (by kernel_rfl) (hval 1 38 v1 rfl rfl) h1
  obtain ⟨c19, c20, c21, c22, c23, c24, rfl⟩ := len6 (hl1.trans rfl)
  obtain ⟨q_t25, y_t25, e_t25, t25⟩ := hg1 0 _ rfl
  obtain rfl : c19 = q_t25 := by simpa using e_t25
  obtain ⟨a26, e_a26, _, w_a26⟩ := DataW.trod_int Try.underlying5 t25
  obtain rfl : c19 = _ := by simpa using e_a26
  have b_a26 : 0 ≤ a26 ∧ a26 ≤ 255 := by simpa [Lit.wf, IntKind.min, IntKind.max, IntKind.signed, IntKind.bits] using w_a26
  obtain ⟨q_t27, y_t27, e_t27, t27⟩ := hg1 1 _ rfl
  obtain rfl : c20 = q_t27 := by simpa using e_t27
  obtain ⟨a28, e_a28, _⟩ := DataW.trod_bool Try.underlying4 t27
  obtain rfl : c20 = _ := by simpa using e_a28
  obtain ⟨q_t29, y_t29, e_t29, t29⟩ := hg1 2 _ rfl
  obtain rfl : c21 = q_t29 := by simpa using e_t29
  obtain ⟨a30, e_a30, _, w_a30⟩ := DataW.trod_int Try.underlying5 t29
  obtain rfl : c21 = _ := by simpa using e_a30
  have b_a30 : 0 ≤ a30 ∧ a30 ≤ 255 := by simpa [Lit.wf, IntKind.min, IntKind.max, IntKind.signed, IntKind.bits] using w_a30
  obtain ⟨q_t31, y_t31, e_t31, t31⟩ := hg1 3 _ rfl
  obtain rfl : c22 = q_t31 := by simpa using e_t31
  obtain ⟨a32, e_a32, _, w_a32⟩ := DataW.trod_int Try.underlying5 t31
  obtain rfl : c22 = _ := by simpa using e_a32
  have b_a32 : 0 ≤ a32 ∧ a32 ≤ 255 := by simpa [Lit.wf, IntKind.min, IntKind.max, IntKind.signed, IntKind.bits] using w_a32
  obtain ⟨q_t33, y_t33, e_t33, t33⟩ := hg1 4 _ rfl
  obtain rfl : c23 = q_t33 := by simpa using e_t33
  obtain ⟨a34, e_a34, _, w_a34⟩ := DataW.trod_int Try.underlying5 t33
  obtain rfl : c23 = _ := by simpa using e_a34
  have b_a34 : 0 ≤ a34 ∧ a34 ≤ 255 := by simpa [Lit.wf, IntKind.min, IntKind.max, IntKind.signed, IntKind.bits] using w_a34
  obtain ⟨q_t35, y_t35, e_t35, t35⟩ := hg1 5 _ rfl
  obtain rfl : c24 = q_t35 := by simpa using e_t35
  obtain ⟨a36, e_a36, _, w_a36⟩ := DataW.trod_int Try.underlying5 t35
  obtain rfl : c24 = _ := by simpa using e_a36
  have b_a36 : 0 ≤ a36 ∧ a36 ≤ 255 := by simpa [Lit.wf, IntKind.min, IntKind.max, IntKind.signed, IntKind.bits] using w_a36
  clear hA0 hval0
  refine (law_makes a8 a10 a12 a14 a16 a18 a26 a28 a30 a32 a34 a36 W b_a8.1 b_a8.2 b_a12.1 b_a12.2 b_a14.1 b_a14.2 b_a16.1 b_a16.2 b_a18.1 b_a18.2 b_a26.1 b_a26.2 b_a30.1 b_a30.2 b_a32.1 b_a32.2 b_a34.1 b_a34.2 b_a36.1 b_a36.2).mono fun e W' ⟨he, hup⟩ => ?_
  have bel : Below W.heap.size W W' := hup
  subst he
  exact ⟨_, rfl, _, _, _, [], _, [], hW', trodAll_mk1 (shut_bool Try.underlying4 _), (trodAll_cons_mk (Below.trod laidOut (by kernel_rfl) (of_decide_eq_true (by kernel_rfl)) k0 bel lt0) (trodAll_cons_mk (Below.trod laidOut (by kernel_rfl) (of_decide_eq_true (by kernel_rfl)) k1 bel lt1) trodAll_mk0)), rfl, bel.frame _, fun h => by cases h⟩

theorem over : Rows.attrMakesRow.holds Try.pinned (OpenSpec.ofChange Rows.attrMakesSpec) :=
  OpenClaim.holds_of_wide 7 Try.f7 rfl rfl rfl rfl rfl rfl rfl ⟨rfl, rfl, rfl, rfl, rfl⟩ rfl rfl rfl rfl rfl (by kernel_rfl) Try.func7 (by kernel_rfl)
    (of_decide_eq_true (by kernel_rfl)) (by unfold Func.isWrapper; first | (rw [if_pos (by decide +kernel)]; kernel_rfl) | (rw [if_neg (by decide +kernel)]; exact ⟨rfl, rfl⟩))
    (fun os started H enc _ => lifted os started H enc)

theorem proved : Rows.AttrMakesSaid := over
#print axioms proved
end Go.Proofs.Ytockighgdkebaaa.attrMakes
