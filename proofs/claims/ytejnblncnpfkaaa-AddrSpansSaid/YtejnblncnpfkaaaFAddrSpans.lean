/-
  The given statement of AddrSpans: for every input it returns true and leaves its arguments as they were. No condition.
-/
import Derived.Test.YtejnblncnpfkaaaLaw04e
import Derived.Test.YtejnblncnpfkaaaOpen
namespace Go.Proofs.Ytejnblncnpfkaaa.addrSpans
open Go.ChangeShapes Go.WideShapes Go.ChangeAt Go.RowKit Go.Joins Go.Deep
open Go.ChangeMaps (open_string shut_string)
set_option linter.unusedVariables false
set_option linter.unusedSimpArgs false

set_option maxRecDepth 100000 in
theorem lifted (os : Os) (started : os.Started) (H : Type) (enc : TypeId × Value → H) :
    ReturnsInHanded {} Try.checked os 8 .any (Rows.addrSpansSpec.pre6 enc Try.prog Try.f8 Rows.addrSpansRow.domain false) (Rows.addrSpansSpec.post enc Try.prog Try.f8 false true false false) := by
  refine returnsInHanded_of_change (C := Try.checked) own started (by kernel_rfl) Try.func8
    (ChangeSpec.witness6 (enc := enc) (C := Try.checked) false ⟨#[], #[.agg #[.int .i64 0, .int .i64 0], .int .i64 0, .int .i64 0, .int .u16 0], []⟩ 8 (by kernel_rfl) (by kernel_rfl) (by kernel_rfl) (by kernel_rfl)) ?_
  intro W base args ds gs before hval0 hW hcnd _
  have hval : ∀ (j : Nat) t v, Try.f8.params[j]? = some t → args[j]? = some v → Value.okWide Try.prog W .any base t v := hval0
  have hW' := hW
  obtain ⟨p, q, hA0, hV, rfl, hfz, hnd⟩ := hW
  have hA : DataW.TrodAll enc Try.prog W 0 (fun _ => true) true Try.f8.params.toList args.toList ds p := hA0
  rw [Try.params8] at hA hval
  obtain ⟨v0, vs0, d0, ds0, p0, q0, hargs, rfl, rfl, h0, r0⟩ := trodAll_cons hA
  obtain ⟨v1, vs1, d1, ds1, p1, q1, rfl, rfl, rfl, h1, r1⟩ := trodAll_cons r0
  obtain ⟨v2, vs2, d2, ds2, p2, q2, rfl, rfl, rfl, h2, r2⟩ := trodAll_cons r1
  obtain ⟨v3, vs3, d3, ds3, p3, q3, rfl, rfl, rfl, h3, r3⟩ := trodAll_cons r2
  obtain ⟨rfl, rfl, rfl⟩ := trodAll_nil r3
  obtain rfl : args = #[v0, v1, v2, v3] := by cases args; simp_all
  obtain ⟨rfl, rfl⟩ := trodVars_none hV
  have k0 := h0
  have lt0 : ∀ x ∈ p0, x.block < W.heap.size := by obtain ⟨m, hm⟩ := k0; exact DataW.trod_lt m _ _ _ hm
  obtain ⟨cs0, m0, rfl, hl0, hg0⟩ := open_fields Try.underlying28 (by kernel_rfl) (by kernel_rfl) (hval 0 28 v0 rfl rfl) h0
  obtain ⟨c1, c2, rfl⟩ := len2 (hl0.trans rfl)
  obtain ⟨q_t3, y_t3, e_t3, t3⟩ := hg0 0 _ rfl
  obtain rfl : c1 = q_t3 := by simpa using e_t3
  obtain ⟨a4, e_a4, _, w_a4⟩ := DataW.trod_int Try.underlying3 t3
  obtain rfl : c1 = _ := by simpa using e_a4
  have b_a4 : -9223372036854775808 ≤ a4 ∧ a4 ≤ 9223372036854775807 := by simpa [Lit.wf, IntKind.min, IntKind.max, IntKind.signed, IntKind.bits] using w_a4
  obtain ⟨q_t5, y_t5, e_t5, t5⟩ := hg0 1 _ rfl
  obtain rfl : c2 = q_t5 := by simpa using e_t5
  obtain ⟨a6, e_a6, _, w_a6⟩ := DataW.trod_int Try.underlying3 t5
  obtain rfl : c2 = _ := by simpa using e_a6
  have b_a6 : -9223372036854775808 ≤ a6 ∧ a6 ≤ 9223372036854775807 := by simpa [Lit.wf, IntKind.min, IntKind.max, IntKind.signed, IntKind.bits] using w_a6
  have k1 := h1
  have lt1 : ∀ x ∈ p1, x.block < W.heap.size := by obtain ⟨m, hm⟩ := k1; exact DataW.trod_lt m _ _ _ hm
  obtain ⟨a7, rfl, _, _, w_a7⟩ := open_int Try.underlying3 (hval 1 3 v1 rfl rfl) h1
  have b_a7 : -9223372036854775808 ≤ a7 ∧ a7 ≤ 9223372036854775807 := by simpa [Lit.wf, IntKind.min, IntKind.max, IntKind.signed, IntKind.bits] using w_a7
  have k2 := h2
  have lt2 : ∀ x ∈ p2, x.block < W.heap.size := by obtain ⟨m, hm⟩ := k2; exact DataW.trod_lt m _ _ _ hm
  obtain ⟨a8, rfl, _, _, w_a8⟩ := open_int Try.underlying3 (hval 2 3 v2 rfl rfl) h2
  have b_a8 : -9223372036854775808 ≤ a8 ∧ a8 ≤ 9223372036854775807 := by simpa [Lit.wf, IntKind.min, IntKind.max, IntKind.signed, IntKind.bits] using w_a8
  have k3 := h3
  have lt3 : ∀ x ∈ p3, x.block < W.heap.size := by obtain ⟨m, hm⟩ := k3; exact DataW.trod_lt m _ _ _ hm
  obtain ⟨a9, rfl, _, _, w_a9⟩ := open_int Try.underlying57 (hval 3 57 v3 rfl rfl) h3
  have b_a9 : 0 ≤ a9 ∧ a9 ≤ 65535 := by simpa [Lit.wf, IntKind.min, IntKind.max, IntKind.signed, IntKind.bits] using w_a9
  clear hA0 hval0
  refine (law_spans a4 a6 a7 a8 a9 W b_a4.1 b_a4.2 b_a6.1 b_a6.2 b_a7.1 b_a7.2 b_a8.1 b_a8.2 b_a9.1 b_a9.2).mono fun e W' ⟨he, hup⟩ => ?_
  have bel : Below W.heap.size W W' := hup
  subst he
  exact ⟨_, rfl, _, _, _, [], _, [], hW', trodAll_mk1 (shut_bool Try.underlying4 _), (trodAll_cons_mk (Below.trod laidOut (by kernel_rfl) (of_decide_eq_true (by kernel_rfl)) k0 bel lt0) (trodAll_cons_mk (Below.trod laidOut (by kernel_rfl) (of_decide_eq_true (by kernel_rfl)) k1 bel lt1) (trodAll_cons_mk (Below.trod laidOut (by kernel_rfl) (of_decide_eq_true (by kernel_rfl)) k2 bel lt2) (trodAll_cons_mk (Below.trod laidOut (by kernel_rfl) (of_decide_eq_true (by kernel_rfl)) k3 bel lt3) trodAll_mk0)))), rfl, bel.frame _, fun h => by cases h⟩

theorem over : Rows.addrSpansRow.holds Try.pinned (OpenSpec.ofChange Rows.addrSpansSpec) :=
  OpenClaim.holds_of_wide 8 Try.f8 rfl rfl rfl rfl rfl rfl rfl ⟨rfl, rfl, rfl, rfl, rfl⟩ rfl rfl rfl rfl rfl (by kernel_rfl) Try.func8 (by kernel_rfl)
    (of_decide_eq_true (by kernel_rfl)) (by unfold Func.isWrapper; first | (rw [if_pos (by decide +kernel)]; kernel_rfl) | (rw [if_neg (by decide +kernel)]; exact ⟨rfl, rfl⟩))
    (fun os started H enc _ => lifted os started H enc)

theorem proved : Rows.AddrSpansSaid := over
#print axioms proved
end Go.Proofs.Ytejnblncnpfkaaa.addrSpans
