/-
  The given statement of EraseTwice: for every input it returns true and leaves its arguments as they were. No condition.
-/
import Derived.Test.YtjokcfenncogkaaLaw14w
import Derived.Test.YtjokcfenncogkaaOpen
import Derived.Test.YtjokcfenncogkaaOpenEE
namespace Go.Proofs.Ytjokcfenncogkaa.eraseTwice
open Go.ChangeShapes Go.WideShapes Go.ChangeAt Go.RowKit Go.Joins Go.Deep
open Go.ChangeMaps (open_string shut_string)
set_option linter.unusedVariables false
set_option linter.unusedSimpArgs false

set_option maxRecDepth 100000 in
theorem lifted (os : Os) (started : os.Started) (H : Type) (enc : TypeId × Value → H) :
    ReturnsInHanded {} Try.checked os 20 .any (Rows.eraseTwiceSpec.pre6 enc Try.prog Try.f20 Rows.eraseTwiceRow.domain false) (Rows.eraseTwiceSpec.post enc Try.prog Try.f20 false true false false) := by
  refine returnsInHanded_of_change (C := Try.checked) own started (by kernel_rfl) Try.func20
    (ChangeSpec.witness6 (enc := enc) (C := Try.checked) false ⟨#[], #[.int .u8 0, .slice none 0 0, .agg #[.int .u8 0, .int .i64 0, .int .i64 0, .int .u8 0, .bool false, .int .u8 0, .int .u8 0, .int .u8 0, .int .u8 0]], []⟩ 8 (by kernel_rfl) (by kernel_rfl) (by kernel_rfl) (by kernel_rfl)) ?_
  intro W base args ds gs before hval0 hW hcnd _
  have hval : ∀ (j : Nat) t v, Try.f20.params[j]? = some t → args[j]? = some v → Value.okWide Try.prog W .any base t v := hval0
  have hW' := hW
  obtain ⟨p, q, hA0, hV, rfl, hfz, hnd⟩ := hW
  have hA : DataW.TrodAll enc Try.prog W 0 (fun _ => true) true Try.f20.params.toList args.toList ds p := hA0
  rw [Try.params20] at hA hval
  obtain ⟨v0, vs0, d0, ds0, p0, q0, hargs, rfl, rfl, h0, r0⟩ := trodAll_cons hA
  obtain ⟨v1, vs1, d1, ds1, p1, q1, rfl, rfl, rfl, h1, r1⟩ := trodAll_cons r0
  obtain ⟨v2, vs2, d2, ds2, p2, q2, rfl, rfl, rfl, h2, r2⟩ := trodAll_cons r1
  obtain ⟨rfl, rfl, rfl⟩ := trodAll_nil r2
  obtain rfl : args = #[v0, v1, v2] := by cases args; simp_all
  obtain ⟨rfl, rfl⟩ := trodVars_none hV
  have k0 := h0
  have lt0 : ∀ x ∈ p0, x.block < W.heap.size := by obtain ⟨m, hm⟩ := k0; exact DataW.trod_lt m _ _ _ hm
  obtain ⟨a1, rfl, _, _, w_a1⟩ := open_int Try.underlying5 (hval 0 5 v0 rfl rfl) h0
  have b_a1 : 0 ≤ a1 ∧ a1 ≤ 255 := by simpa [Lit.wf, IntKind.min, IntKind.max, IntKind.signed, IntKind.bits] using w_a1
  have k1 := h1
  have lt1 : ∀ x ∈ p1, x.block < W.heap.size := by obtain ⟨m, hm⟩ := k1; exact DataW.trod_lt m _ _ _ hm
  obtain ⟨A2, n3, c4, rfl⟩ := okWide_slice Try.underlying22 (hval 1 22 v1 rfl rfl)
  obtain ⟨L5, hl_L5, hn_L5, hc_L5, hw_L5, hr_L5⟩ := (by obtain ⟨fuel, hf⟩ := h1; exact open_acts hf : ∃ l : List ActR, l.length = n3 ∧ n3 ≤ c4 ∧ c4 ≤ maxLen ∧ (∀ x ∈ l, x.Ok W W.heap.size) ∧ Reads W W.heap.size 11 A2 n3 (l.flatMap ActR.enc))
  have k2 := h2
  have lt2 : ∀ x ∈ p2, x.block < W.heap.size := by obtain ⟨m, hm⟩ := k2; exact DataW.trod_lt m _ _ _ hm
  obtain ⟨cs2, rfl, hsz2⟩ := okWide_struct Try.underlying110 (hval 2 110 v2 rfl rfl)
  obtain ⟨fuel2, hf2⟩ := h2
  obtain ⟨c6, c7, c8, c9, c10, c11, c12, c13, c14, el2⟩ := len9 (l := cs2.toList) (by rw [Array.length_toList, hsz2]; kernel_rfl)
  obtain ⟨d15, n16, t17, C18, w_C18, e_C18⟩ := open_act14 (show DataW.trod enc Try.prog W 0 _ true fuel2 110 [c6, c7, c8, c9, c10, c11, c12, c13, c14] = _ by rw [← el2]; simpa [Value.cells] using hf2)
  obtain rfl : cs2 = #[.int .u8 d15, .int .i64 n16, .int .i64 t17, .int .u8 C18.ch, .bool C18.at_, .int .u8 C18.fa, .int .u8 C18.hi, .int .u8 C18.co, .int .u8 C18.se] := by rw [← Array.toArray_toList (xs := cs2), el2, ← e_C18]; rfl
  clear hA0 hval0
  refine (law_twice a1 A2 n3 c4 L5 d15 n16 t17 C18 W b_a1.1 b_a1.2 hl_L5 hn_L5 hc_L5 hw_L5 hr_L5 w_C18.1.1 w_C18.1.2 w_C18.2.1.1 w_C18.2.1.2 w_C18.2.2.1.1 w_C18.2.2.1.2 w_C18.2.2.2).mono fun e W' ⟨he, hup⟩ => ?_
  have bel : Below W.heap.size W W' := hup
  subst he
  exact ⟨_, rfl, _, _, _, [], _, [], hW', trodAll_mk1 (shut_bool Try.underlying4 _), (trodAll_cons_mk (Below.trod laidOut (by kernel_rfl) (of_decide_eq_true (by kernel_rfl)) k0 bel lt0) (trodAll_cons_mk (Below.trod laidOut (by kernel_rfl) (of_decide_eq_true (by kernel_rfl)) k1 bel lt1) (trodAll_cons_mk (Below.trod laidOut (by kernel_rfl) (of_decide_eq_true (by kernel_rfl)) k2 bel lt2) trodAll_mk0))), rfl, bel.frame _, fun h => by cases h⟩

theorem over : Rows.eraseTwiceRow.holds Try.pinned (OpenSpec.ofChange Rows.eraseTwiceSpec) :=
  OpenClaim.holds_of_wide 20 Try.f20 rfl rfl rfl rfl rfl rfl rfl ⟨rfl, rfl, rfl, rfl, rfl⟩ rfl rfl rfl rfl rfl (by kernel_rfl) Try.func20 (by kernel_rfl)
    (of_decide_eq_true (by kernel_rfl)) (by unfold Func.isWrapper; first | (rw [if_pos (by decide +kernel)]; kernel_rfl) | (rw [if_neg (by decide +kernel)]; exact ⟨rfl, rfl⟩))
    (fun os started H enc _ => lifted os started H enc)

theorem proved : Rows.EraseTwiceSaid := over
#print axioms proved
end Go.Proofs.Ytjokcfenncogkaa.eraseTwice
