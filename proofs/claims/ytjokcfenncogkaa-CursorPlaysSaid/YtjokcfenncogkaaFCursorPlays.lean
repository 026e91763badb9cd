/-
  The given statement of CursorPlays: for every input it returns true and leaves its arguments as they were. No condition.
-/
import Derived.Test.YtjokcfenncogkaaLaw15p
import Derived.Test.YtjokcfenncogkaaOpen
import Derived.Test.YtjokcfenncogkaaOpenA
namespace Go.Proofs.Ytjokcfenncogkaa.cursorPlays
open Go.ChangeShapes Go.WideShapes Go.ChangeAt Go.RowKit Go.Joins Go.Deep
open Go.ChangeMaps (open_string shut_string)
set_option linter.unusedVariables false
set_option linter.unusedSimpArgs false

set_option maxRecDepth 100000 in
theorem lifted (os : Os) (started : os.Started) (H : Type) (enc : TypeId × Value → H) :
    ReturnsInHanded {} Try.checked os 13 .any (Rows.cursorPlaysSpec.pre6 enc Try.prog Try.f13 Rows.cursorPlaysRow.domain false) (Rows.cursorPlaysSpec.post enc Try.prog Try.f13 false true false false) := by
  refine returnsInHanded_of_change (C := Try.checked) own started (by kernel_rfl) Try.func13
    (ChangeSpec.witness6 (enc := enc) (C := Try.checked) false ⟨#[], #[.int .u8 0, .slice none 0 0, .slice none 0 0], []⟩ 8 (by kernel_rfl) (by kernel_rfl) (by kernel_rfl) (by kernel_rfl)) ?_
  intro W base args ds gs before hval0 hW hcnd _
  have hval : ∀ (j : Nat) t v, Try.f13.params[j]? = some t → args[j]? = some v → Value.okWide Try.prog W .any base t v := hval0
  have hW' := hW
  obtain ⟨p, q, hA0, hV, rfl, hfz, hnd⟩ := hW
  have hA : DataW.TrodAll enc Try.prog W 0 (fun _ => true) true Try.f13.params.toList args.toList ds p := hA0
  rw [Try.params13] at hA hval
  obtain ⟨v0, vs0, d0, ds0, p0, q0, hargs, rfl, rfl, h0, r0⟩ := trodAll_cons hA
  obtain ⟨v1, vs1, d1, ds1, p1, q1, rfl, rfl, rfl, h1, r1⟩ := trodAll_cons r0
  obtain ⟨v2, vs2, d2, ds2, p2, q2, rfl, rfl, rfl, h2, r2⟩ := trodAll_cons r1
  obtain ⟨rfl, rfl, rfl⟩ := trodAll_nil r2
  obtain rfl : args = #[v0, v1, v2] := by cases args; simp_all
  obtain ⟨rfl, rfl⟩ := trodVars_none hV
  have k0 := h0
  have lt0 : ∀ x ∈ p0, x.block < W.heap.size := by obtain ⟨m, hm⟩ := k0; exact DataW.trod_lt m _ _ _ hm
  obtain ⟨a1, rfl, _, _, w_a1⟩ := open_int Try.underlying5 (hval 0 5 v0 rfl rfl) h0
  have b_a1 : 0 ≤ a1 ∧ a1 ≤ 255 := by simpa [Lit.wf, IntKind.min, IntKind.max, IntKind.signed, IntKind.bits] using w_a1
  have k1 := h1
  have lt1 : ∀ x ∈ p1, x.block < W.heap.size := by obtain ⟨m, hm⟩ := k1; exact DataW.trod_lt m _ _ _ hm
  obtain ⟨A2, n3, c4, rfl⟩ := okWide_slice Try.underlying22 (hval 1 22 v1 rfl rfl)
  obtain ⟨L5, hl_L5, hn_L5, hc_L5, hw_L5, hr_L5⟩ := (by obtain ⟨fuel, hf⟩ := h1; exact open_acts hf : ∃ l : List ActR, l.length = n3 ∧ n3 ≤ c4 ∧ c4 ≤ maxLen ∧ (∀ x ∈ l, x.Ok W W.heap.size) ∧ Reads W W.heap.size 11 A2 n3 (l.flatMap ActR.enc))
  have k2 := h2
  have lt2 : ∀ x ∈ p2, x.block < W.heap.size := by obtain ⟨m, hm⟩ := k2; exact DataW.trod_lt m _ _ _ hm
  obtain ⟨A6, n7, c8, rfl⟩ := okWide_slice Try.underlying100 (hval 2 100 v2 rfl rfl)
  obtain ⟨L9, hl_L9, hn_L9, hc_L9, hw_L9, hr_L9⟩ : ∃ l : List (Int × Int × Int), l.length = n7 ∧ n7 ≤ c8 ∧ c8 ≤ maxLen ∧ (∀ x ∈ l, 0 ≤ x.1 ∧ x.1 ≤ 255 ∧ -9223372036854775808 ≤ x.2.1 ∧ x.2.1 ≤ 9223372036854775807 ∧ -9223372036854775808 ≤ x.2.2 ∧ x.2.2 ≤ 9223372036854775807) ∧ Reads W W.heap.size 3 A6 n7 (l.flatMap (fun x : Int × Int × Int => [.int .u8 x.1, .int .i64 x.2.1, .int .i64 x.2.2])) := by
    obtain ⟨fuel, hf⟩ := h2
    refine open_structs (k := 3) (enc' := fun x : Int × Int × Int => [.int .u8 x.1, .int .i64 x.2.1, .int .i64 x.2.2]) (Q := fun x => 0 ≤ x.1 ∧ x.1 ≤ 255 ∧ -9223372036854775808 ≤ x.2.1 ∧ x.2.1 ≤ 9223372036854775807 ∧ -9223372036854775808 ≤ x.2.2 ∧ x.2.2 ≤ 9223372036854775807) Try.underlying100 Try.underlying102 (by kernel_rfl) (by kernel_rfl) (by decide) rfl (fun x => rfl) hf ?_
    intro cs m hl hg
    obtain ⟨c10, c11, c12, rfl⟩ := len3 hl
    obtain ⟨q_t13, y_t13, e_t13, t13⟩ := hg 0 _ rfl
    obtain rfl : c10 = q_t13 := by simpa using e_t13
    obtain ⟨a14, e_a14, _, w_a14⟩ := DataW.trod_int Try.underlying5 t13
    obtain rfl : c10 = _ := by simpa using e_a14
    have b_a14 : 0 ≤ a14 ∧ a14 ≤ 255 := by simpa [Lit.wf, IntKind.min, IntKind.max, IntKind.signed, IntKind.bits] using w_a14
    obtain ⟨q_t15, y_t15, e_t15, t15⟩ := hg 1 _ rfl
    obtain rfl : c11 = q_t15 := by simpa using e_t15
    obtain ⟨a16, e_a16, _, w_a16⟩ := DataW.trod_int Try.underlying3 t15
    obtain rfl : c11 = _ := by simpa using e_a16
    have b_a16 : -9223372036854775808 ≤ a16 ∧ a16 ≤ 9223372036854775807 := by simpa [Lit.wf, IntKind.min, IntKind.max, IntKind.signed, IntKind.bits] using w_a16
    obtain ⟨q_t17, y_t17, e_t17, t17⟩ := hg 2 _ rfl
    obtain rfl : c12 = q_t17 := by simpa using e_t17
    obtain ⟨a18, e_a18, _, w_a18⟩ := DataW.trod_int Try.underlying3 t17
    obtain rfl : c12 = _ := by simpa using e_a18
    have b_a18 : -9223372036854775808 ≤ a18 ∧ a18 ≤ 9223372036854775807 := by simpa [Lit.wf, IntKind.min, IntKind.max, IntKind.signed, IntKind.bits] using w_a18
    exact ⟨(a14, a16, a18), ⟨b_a14.1, b_a14.2, b_a16.1, b_a16.2, b_a18.1, b_a18.2⟩, rfl⟩
  clear hA0 hval0
  refine (law_plays15 a1 A2 n3 c4 L5 A6 n7 c8 L9 W b_a1.1 b_a1.2 hl_L5 hn_L5 hc_L5 hw_L5 hr_L5 hl_L9 hn_L9 hc_L9 hw_L9 hr_L9).mono fun e W' ⟨he, hup⟩ => ?_
  have bel : Below W.heap.size W W' := hup
  subst he
  exact ⟨_, rfl, _, _, _, [], _, [], hW', trodAll_mk1 (shut_bool Try.underlying4 _), (trodAll_cons_mk (Below.trod laidOut (by kernel_rfl) (of_decide_eq_true (by kernel_rfl)) k0 bel lt0) (trodAll_cons_mk (Below.trod laidOut (by kernel_rfl) (of_decide_eq_true (by kernel_rfl)) k1 bel lt1) (trodAll_cons_mk (Below.trod laidOut (by kernel_rfl) (of_decide_eq_true (by kernel_rfl)) k2 bel lt2) trodAll_mk0))), rfl, bel.frame _, fun h => by cases h⟩

theorem over : Rows.cursorPlaysRow.holds Try.pinned (OpenSpec.ofChange Rows.cursorPlaysSpec) :=
  OpenClaim.holds_of_wide 13 Try.f13 rfl rfl rfl rfl rfl rfl rfl ⟨rfl, rfl, rfl, rfl, rfl⟩ rfl rfl rfl rfl rfl (by kernel_rfl) Try.func13 (by kernel_rfl)
    (of_decide_eq_true (by kernel_rfl)) (by unfold Func.isWrapper; first | (rw [if_pos (by decide +kernel)]; kernel_rfl) | (rw [if_neg (by decide +kernel)]; exact ⟨rfl, rfl⟩))
    (fun os started H enc _ => lifted os started H enc)

theorem proved : Rows.CursorPlaysSaid := over
#print axioms proved
end Go.Proofs.Ytjokcfenncogkaa.cursorPlays
