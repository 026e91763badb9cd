/-
  The given statement of AttrBytes: for every input it returns true and leaves its arguments as they were. No condition.
-/
import Derived.Test.YtockighgdkebaaaLaw05d
import Derived.Test.YtockighgdkebaaaOpen
namespace Go.Proofs.Ytockighgdkebaaa.attrBytes
open Go.ChangeShapes Go.WideShapes Go.ChangeAt Go.RowKit Go.Joins Go.Deep
open Go.ChangeMaps (open_string shut_string)
set_option linter.unusedVariables false
set_option linter.unusedSimpArgs false

set_option maxRecDepth 100000 in
theorem lifted (os : Os) (started : os.Started) (H : Type) (enc : TypeId × Value → H) :
    ReturnsInHanded {} Try.checked os 6 .any (Rows.attrBytesSpec.pre6 enc Try.prog Try.f6 Rows.attrBytesRow.domain false) (Rows.attrBytesSpec.post enc Try.prog Try.f6 false true false false) := by
  refine returnsInHanded_of_change (C := Try.checked) own started (by kernel_rfl) Try.func6
    (ChangeSpec.witness6 (enc := enc) (C := Try.checked) false ⟨#[], #[.slice none 0 0, .slice none 0 0], []⟩ 8 (by kernel_rfl) (by kernel_rfl) (by kernel_rfl) (by kernel_rfl)) ?_
  intro W base args ds gs before hval0 hW hcnd _
  have hval : ∀ (j : Nat) t v, Try.f6.params[j]? = some t → args[j]? = some v → Value.okWide Try.prog W .any base t v := hval0
  have hW' := hW
  obtain ⟨p, q, hA0, hV, rfl, hfz, hnd⟩ := hW
  have hA : DataW.TrodAll enc Try.prog W 0 (fun _ => true) true Try.f6.params.toList args.toList ds p := hA0
  rw [Try.params6] at hA hval
  obtain ⟨v0, vs0, d0, ds0, p0, q0, hargs, rfl, rfl, h0, r0⟩ := trodAll_cons hA
  obtain ⟨v1, vs1, d1, ds1, p1, q1, rfl, rfl, rfl, h1, r1⟩ := trodAll_cons r0
  obtain ⟨rfl, rfl, rfl⟩ := trodAll_nil r1
  obtain rfl : args = #[v0, v1] := by cases args; simp_all
  obtain ⟨rfl, rfl⟩ := trodVars_none hV
  have k0 := h0
  have lt0 : ∀ x ∈ p0, x.block < W.heap.size := by obtain ⟨m, hm⟩ := k0; exact DataW.trod_lt m _ _ _ hm
  obtain ⟨A1, n2, c3, rfl⟩ := okWide_slice Try.underlying53 (hval 0 53 v0 rfl rfl)
  obtain ⟨L4, hl_L4, hn_L4, hc_L4, hw_L4, hr_L4⟩ : ∃ l : List (Int × Int), l.length = n2 ∧ n2 ≤ c3 ∧ c3 ≤ maxLen ∧ (∀ x ∈ l, 0 ≤ x.1 ∧ x.1 ≤ 255 ∧ 0 ≤ x.2 ∧ x.2 ≤ 255) ∧ Reads W W.heap.size 2 A1 n2 (l.flatMap (fun x : Int × Int => [.int .u8 x.1, .int .u8 x.2])) := by
    obtain ⟨fuel, hf⟩ := h0
    refine open_structs (k := 2) (enc' := fun x : Int × Int => [.int .u8 x.1, .int .u8 x.2]) (Q := fun x => 0 ≤ x.1 ∧ x.1 ≤ 255 ∧ 0 ≤ x.2 ∧ x.2 ≤ 255) Try.underlying53 Try.underlying36 (by kernel_rfl) (by kernel_rfl) (by decide) rfl (fun x => rfl) hf ?_
    intro cs m hl hg
    obtain ⟨c5, c6, rfl⟩ := len2 hl
    obtain ⟨q_t7, y_t7, e_t7, t7⟩ := hg 0 _ rfl
    obtain rfl : c5 = q_t7 := by simpa using e_t7
    obtain ⟨a8, e_a8, _, w_a8⟩ := DataW.trod_int Try.underlying5 t7
    obtain rfl : c5 = _ := by simpa using e_a8
    have b_a8 : 0 ≤ a8 ∧ a8 ≤ 255 := by simpa [Lit.wf, IntKind.min, IntKind.max, IntKind.signed, IntKind.bits] using w_a8
    obtain ⟨q_t9, y_t9, e_t9, t9⟩ := hg 1 _ rfl
    obtain rfl : c6 = q_t9 := by simpa using e_t9
    obtain ⟨a10, e_a10, _, w_a10⟩ := DataW.trod_int Try.underlying5 t9
    obtain rfl : c6 = _ := by simpa using e_a10
    have b_a10 : 0 ≤ a10 ∧ a10 ≤ 255 := by simpa [Lit.wf, IntKind.min, IntKind.max, IntKind.signed, IntKind.bits] using w_a10
    exact ⟨(a8, a10), ⟨b_a8.1, b_a8.2, b_a10.1, b_a10.2⟩, rfl⟩
  have k1 := h1
  have lt1 : ∀ x ∈ p1, x.block < W.heap.size := by obtain ⟨m, hm⟩ := k1; exact DataW.trod_lt m _ _ _ hm
  obtain ⟨A11, n12, c13, rfl⟩ := okWide_slice Try.underlying47 (hval 1 47 v1 rfl rfl)
  obtain ⟨L14, hl_L14, hn_L14, hc_L14, hw_L14, hr_L14⟩ : ∃ l : List Int, l.length = n12 ∧ n12 ≤ c13 ∧ c13 ≤ maxLen ∧ (∀ x ∈ l, 0 ≤ x ∧ x ≤ 255) ∧ Reads W W.heap.size 1 A11 n12 (l.map (Value.int .u8)) := by
    obtain ⟨fuel, hf⟩ := h1
    exact open_bytes (k := .u8) (lo := 0) (hi := 255) Try.underlying47 Try.underlying5 (by kernel_rfl) (fun x hx => by simpa [Lit.wf, IntKind.min, IntKind.max, IntKind.signed, IntKind.bits] using hx) hf
  clear hA0 hval0
  refine (law_bytes A1 n2 c3 L4 A11 n12 c13 L14 W hl_L4 hn_L4 hc_L4 hw_L4 hr_L4 hl_L14 hn_L14 hc_L14 hw_L14 hr_L14).mono fun e W' ⟨he, hup⟩ => ?_
  have bel : Below W.heap.size W W' := hup
  subst he
  exact ⟨_, rfl, _, _, _, [], _, [], hW', trodAll_mk1 (shut_bool Try.underlying4 _), (trodAll_cons_mk (Below.trod laidOut (by kernel_rfl) (of_decide_eq_true (by kernel_rfl)) k0 bel lt0) (trodAll_cons_mk (Below.trod laidOut (by kernel_rfl) (of_decide_eq_true (by kernel_rfl)) k1 bel lt1) trodAll_mk0)), rfl, bel.frame _, fun h => by cases h⟩

theorem over : Rows.attrBytesRow.holds Try.pinned (OpenSpec.ofChange Rows.attrBytesSpec) :=
  OpenClaim.holds_of_wide 6 Try.f6 rfl rfl rfl rfl rfl rfl rfl ⟨rfl, rfl, rfl, rfl, rfl⟩ rfl rfl rfl rfl rfl (by kernel_rfl) Try.func6 (by kernel_rfl)
    (of_decide_eq_true (by kernel_rfl)) (by unfold Func.isWrapper; first | (rw [if_pos (by decide +kernel)]; kernel_rfl) | (rw [if_neg (by decide +kernel)]; exact ⟨rfl, rfl⟩))
    (fun os started H enc _ => lifted os started H enc)

theorem proved : Rows.AttrBytesSaid := over
#print axioms proved
end Go.Proofs.Ytockighgdkebaaa.attrBytes
