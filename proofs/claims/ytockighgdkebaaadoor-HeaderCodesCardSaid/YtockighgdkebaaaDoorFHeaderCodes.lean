/-
  The given statement of HeaderCodes: for every input it returns true and leaves its arguments as they were. No condition.
-/
import Derived.Test.YtockighgdkebaaaDoorLaw09c
import Derived.Test.YtockighgdkebaaaDoorOpen
import Derived.Test.YtockighgdkebaaaDoorDoor09
import Derived.Test.YtockighgdkebaaaDoorCards
import Derived.Test.YtockighgdkebaaaDoorTie
import Derived.Deep.DeepHandedRow
namespace Go.Proofs.YtockighgdkebaaaDoor.headerCodes
open Go.ChangeShapes Go.WideShapes Go.ChangeAt Go.RowKit Go.Joins Go.Deep
open Go.ChangeMaps (open_string shut_string)
set_option linter.unusedVariables false
set_option linter.unusedSimpArgs false

set_option maxRecDepth 100000 in
theorem contract (H : Type) (enc : TypeId × Value → H) (W : World) (base : Nat) (args : Array Value) (ds gs : List (DataW H)) (before : List MemPlace)
    (hval : ∀ (j : Nat) t v, Tryd.f4.params[j]? = some t → args[j]? = some v → Value.okWide Tryd.prog W .any base t v)
    (hW : DataW.Whole enc Tryd.prog Tryd.f4.params.toList Rows.headerCodesSpec.vars false W args.toList ds gs before) (hL : laidMetH Tryd.prog Rows.headerCodesRow.laid W) :
    Calls Tryd.prog 4 args W fun e W' => ∃ v, e = .returned v ∧ Rows.headerCodesSpec.post enc Tryd.prog Tryd.f4 false true false false W args v W' := by
  have hW' := hW
  obtain ⟨p, q, hA0, hV, rfl, hfz, hnd⟩ := hW
  have hA : DataW.TrodAll enc Tryd.prog W 0 (fun _ => true) true Tryd.f4.params.toList args.toList ds p := hA0
  rw [Tryd.params4] at hA hval
  obtain ⟨v0, vs0, d0, ds0, p0, q0, hargs, rfl, rfl, h0, r0⟩ := trodAll_cons hA
  obtain ⟨v1, vs1, d1, ds1, p1, q1, rfl, rfl, rfl, h1, r1⟩ := trodAll_cons r0
  obtain ⟨rfl, rfl, rfl⟩ := trodAll_nil r1
  obtain rfl : args = #[v0, v1] := by cases args; simp_all
  obtain ⟨rfl, rfl⟩ := trodVars_none hV
  have k0 := h0
  have lt0 : ∀ x ∈ p0, x.block < W.heap.size := by obtain ⟨m, hm⟩ := k0; exact DataW.trod_lt m _ _ _ hm
  obtain ⟨cs0, m0, rfl, hl0, hg0⟩ := open_fields Tryd.underlying24 (by kernel_rfl) (by kernel_rfl) (hval 0 24 v0 rfl rfl) h0
  obtain ⟨c1, c2, c3, c4, rfl⟩ := len4 (hl0.trans rfl)
  obtain ⟨q_t5, y_t5, e_t5, t5⟩ := hg0 0 _ rfl
  obtain rfl : c1 = q_t5 := by simpa using e_t5
  obtain ⟨a6, e_a6, _, w_a6⟩ := DataW.trod_int Tryd.underlying5 t5
  obtain rfl : c1 = _ := by simpa using e_a6
  have b_a6 : 0 ≤ a6 ∧ a6 ≤ 255 := by simpa [Lit.wf, IntKind.min, IntKind.max, IntKind.signed, IntKind.bits] using w_a6
  obtain ⟨q_t7, y_t7, e_t7, t7⟩ := hg0 1 _ rfl
  obtain rfl : c2 = q_t7 := by simpa using e_t7
  obtain ⟨a8, e_a8, _, w_a8⟩ := DataW.trod_int Tryd.underlying5 t7
  obtain rfl : c2 = _ := by simpa using e_a8
  have b_a8 : 0 ≤ a8 ∧ a8 ≤ 255 := by simpa [Lit.wf, IntKind.min, IntKind.max, IntKind.signed, IntKind.bits] using w_a8
  obtain ⟨q_t9, y_t9, e_t9, t9⟩ := hg0 2 _ rfl
  obtain rfl : c3 = q_t9 := by simpa using e_t9
  obtain ⟨a10, e_a10, _, w_a10⟩ := DataW.trod_int Tryd.underlying5 t9
  obtain rfl : c3 = _ := by simpa using e_a10
  have b_a10 : 0 ≤ a10 ∧ a10 ≤ 255 := by simpa [Lit.wf, IntKind.min, IntKind.max, IntKind.signed, IntKind.bits] using w_a10
  obtain ⟨q_t11, y_t11, e_t11, t11⟩ := hg0 3 _ rfl
  obtain rfl : c4 = q_t11 := by simpa using e_t11
  obtain ⟨a12, e_a12, _, w_a12⟩ := DataW.trod_int Tryd.underlying22 t11
  obtain rfl : c4 = _ := by simpa using e_a12
  have b_a12 : 0 ≤ a12 ∧ a12 ≤ 65535 := by simpa [Lit.wf, IntKind.min, IntKind.max, IntKind.signed, IntKind.bits] using w_a12
  have k1 := h1
  have lt1 : ∀ x ∈ p1, x.block < W.heap.size := by obtain ⟨m, hm⟩ := k1; exact DataW.trod_lt m _ _ _ hm
  obtain ⟨A13, n14, c15, rfl⟩ := okWide_slice Tryd.underlying26 (hval 1 26 v1 rfl rfl)
  obtain ⟨L16, hl_L16, hn_L16, hc_L16, hw_L16, hr_L16⟩ : ∃ l : List Int, l.length = n14 ∧ n14 ≤ c15 ∧ c15 ≤ maxLen ∧ (∀ x ∈ l, 0 ≤ x ∧ x ≤ 255) ∧ Reads W W.heap.size 1 A13 n14 (l.map (Value.int .u8)) := by
    obtain ⟨fuel, hf⟩ := h1
    exact open_bytes (k := .u8) (lo := 0) (hi := 255) Tryd.underlying26 Tryd.underlying5 (by kernel_rfl) (fun x hx => by simpa [Lit.wf, IntKind.min, IntKind.max, IntKind.signed, IntKind.bits] using hx) hf
  clear hA0
  refine (law_codes a6 a8 a10 a12 A13 n14 c15 L16 W b_a6.1 b_a6.2 b_a8.1 b_a8.2 b_a10.1 b_a10.2 b_a12.1 b_a12.2 hl_L16 hn_L16 hc_L16 hw_L16 hr_L16 (tabH_of hL)).mono fun e W' ⟨he, hup⟩ => ?_
  have bel : Below W.heap.size W W' := hup
  subst he
  exact ⟨_, rfl, _, _, _, [], _, [], hW', trodAll_mk1 (shut_bool Tryd.underlying4 _), (trodAll_cons_mk (Below.trod laidOut (by kernel_rfl) (of_decide_eq_true (by kernel_rfl)) k0 bel lt0) (trodAll_cons_mk (Below.trod laidOut (by kernel_rfl) (of_decide_eq_true (by kernel_rfl)) k1 bel lt1) trodAll_mk0)), rfl, bel.frame _, fun h => by cases h⟩


noncomputable def laidWorld (os : Os) : World :=
  { World.holding Tryd.prog os ⟨#[], #[], []⟩ with heap := ((World.holding Tryd.prog os ⟨#[], #[], []⟩).heap.modify 0 fun
      | .cells _ t frozen => .cells #[.string { data := #[51, 50, 55, 48, 45, 68, 65, 84, 65] }, .string { data := #[83, 67, 83, 45, 68, 65, 84, 65] }, .string { data := #[82, 69, 83, 80, 79, 78, 83, 69] }, .string { data := #[66, 73, 78, 68, 45, 73, 77, 65, 71, 69] }, .string { data := #[85, 78, 66, 73, 78, 68] }, .string { data := #[78, 86, 84, 45, 68, 65, 84, 65] }, .string { data := #[82, 69, 81, 85, 69, 83, 84] }, .string { data := #[83, 83, 67, 80, 45, 76, 85, 45, 68, 65, 84, 65] }, .string { data := #[80, 82, 73, 78, 84, 45, 69, 79, 74] }] t frozen
      | o => o) }
theorem laid_met (os : Os) : laidMet Tryd.prog Rows.headerCodesRow.laid ((laidWorld os).forCall (fun _ _ => 0) ⟨#[], #[.agg #[.int .u8 0, .int .u8 0, .int .u8 0, .int .u16 0], .slice none 0 0], []⟩).memory :=
  laidMet_of_run' 8 (by kernel_rfl) (by kernel_rfl)
theorem reads (os : Os) {H : Type} (enc : TypeId × Value → H) : ∃ places, DataW.whole enc Tryd.prog ((laidWorld os).forCall (fun _ _ => 0) ⟨#[], #[.agg #[.int .u8 0, .int .u8 0, .int .u8 0, .int .u16 0], .slice none 0 0], []⟩).memory Tryd.f4.params.toList Rows.headerCodesSpec.vars false #[.agg #[.int .u8 0, .int .u8 0, .int .u8 0, .int .u16 0], .slice none 0 0].toList 8 = some ([.agg [.lit (.int .u8 0), .lit (.int .u8 0), .lit (.int .u8 0), .lit (.int .u16 0)], .nil], [], places) :=
  ⟨[], by kernel_rfl⟩

set_option maxRecDepth 100000 in
theorem lifted (os : Os) (started : os.Started) (H : Type) (enc : TypeId × Value → H) (F : Stop.Interp) :
    ReturnsInHanded {} Tryd.checked os 4 .any ((OpenSpec.ofChange Rows.headerCodesSpec).preRow enc Tryd.prog Tryd.f4 Rows.headerCodesRow.domain false Rows.headerCodesRow.laid) (((OpenSpec.ofChange Rows.headerCodesSpec).at F).post enc Tryd.prog Tryd.f4 false true false false) := by
  obtain ⟨places, hx⟩ := reads os enc
  refine returnsInHanded_of_row (C := Tryd.checked) (s := OpenSpec.ofChange Rows.headerCodesSpec) own started (by kernel_rfl) Tryd.func4
    (witness_row_at (enc := enc) (C := Tryd.checked) false (laidWorld os) #[.agg #[.int .u8 0, .int .u8 0, .int .u8 0, .int .u16 0], .slice none 0 0] rfl (by kernel_rfl) (by kernel_rfl) (by kernel_rfl)
      (OpenSpec.preRow_of_cond 8 hx (by kernel_rfl) (fun k hk => by cases hk) (by kernel_rfl) (laid_met os))) ?_
  intro W base args ds gs before hval hW _ _ _ hL _ _
  exact contract H enc W base args ds gs before hval hW hL

theorem said : Rows.HeaderCodesSaid :=
  OpenClaim.holds_of_cond 4 Tryd.f4 rfl rfl rfl rfl rfl rfl rfl ⟨rfl, rfl, rfl, rfl, rfl⟩ rfl rfl rfl rfl rfl (by kernel_rfl) Tryd.func4 (by kernel_rfl)
    (of_decide_eq_true (by kernel_rfl)) (by unfold Func.isWrapper; first | (rw [if_pos (by decide +kernel)]; kernel_rfl) | (rw [if_neg (by decide +kernel)]; exact ⟨rfl, rfl⟩))
    (fun os started H enc _ F => by rw [OpenClaim.pre_eq_preRow]; exact lifted os started H enc F)

theorem plain (f : FuncId) (fn : Func) (hf : Tryd.pinned.checked.prog.funcNamed Tryd.f4.name = some f) (hfn : Tryd.pinned.checked.prog.funcs[f]? = some fn) :
    false = Tryd.pinned.checked.prog.looks [] ∧ ∀ (j : Nat) t, fn.params[j]? = some t → Tryd.pinned.checked.prog.wantsStandIn t = false := by
  obtain rfl : f = 4 := Option.some.inj ((show Tryd.prog.funcNamed Tryd.f4.name = some 4 by kernel_rfl).symm.trans hf) |>.symm
  obtain rfl : fn = Tryd.f4 := (Option.some.inj (Tryd.func4.symm.trans hfn)).symm
  refine ⟨by kernel_rfl, fun j t ht => ?_⟩
  rw [Tryd.params4] at ht
  have hm := Array.mem_of_getElem? ht
  obtain rfl | rfl : t = 24 ∨ t = 26 := by simpa using hm
  · exact (show Tryd.prog.wantsStandIn 24 = false by kernel_rfl)
  · exact (show Tryd.prog.wantsStandIn 26 = false by kernel_rfl)

theorem proved : Rows.HeaderCodesCardSaid :=
  Claim7.holds_tied_plain_at .later [] _ _ _ _ said (fun _ h => by cases h) (by kernel_rfl) (fun _ h => by cases h) headerCodes_row_tie rfl ⟨rfl, rfl⟩ (by kernel_rfl) rfl plain (by kernel_rfl)
#print axioms proved
end Go.Proofs.YtockighgdkebaaaDoor.headerCodes
