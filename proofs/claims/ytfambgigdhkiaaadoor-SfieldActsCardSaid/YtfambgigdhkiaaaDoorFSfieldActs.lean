/-
  The given statement of SfieldActs: for every input it returns true and leaves its arguments as they were. No condition.
-/
import Derived.Test.YtfambgigdhkiaaaDoorLaw21c
import Derived.Test.YtfambgigdhkiaaaDoorOpen
import Derived.Test.YtfambgigdhkiaaaDoorDoor21b
import Derived.Test.YtfambgigdhkiaaaDoorOpenF
import Derived.Test.YtfambgigdhkiaaaDoorCards
import Derived.Test.YtfambgigdhkiaaaDoorTie
import Derived.Deep.DeepHandedRow
namespace Go.Proofs.YtfambgigdhkiaaaDoor.sfieldActs
open Go.ChangeShapes Go.WideShapes Go.ChangeAt Go.RowKit Go.Joins Go.Deep
open Go.ChangeMaps (open_string shut_string)
set_option linter.unusedVariables false
set_option linter.unusedSimpArgs false

set_option maxRecDepth 100000 in
theorem contract (H : Type) (enc : TypeId × Value → H) (W : World) (base : Nat) (args : Array Value) (ds gs : List (DataW H)) (before : List MemPlace)
    (hval : ∀ (j : Nat) t v, Tryd.f6.params[j]? = some t → args[j]? = some v → Value.okWide Tryd.prog W .any base t v)
    (hW : DataW.Whole enc Tryd.prog Tryd.f6.params.toList Rows.sfieldActsSpec.vars false W args.toList ds gs before) (hL : laidMetH Tryd.prog Rows.sfieldActsRow.laid W) :
    Calls Tryd.prog 6 args W fun e W' => ∃ v, e = .returned v ∧ Rows.sfieldActsSpec.post enc Tryd.prog Tryd.f6 false true false false W args v W' := by
  have hW' := hW
  obtain ⟨p, q, hA0, hV, rfl, hfz, hnd⟩ := hW
  have hA : DataW.TrodAll enc Tryd.prog W 0 (fun _ => true) true Tryd.f6.params.toList args.toList ds p := hA0
  rw [Tryd.params6] at hA hval
  obtain ⟨v0, vs0, d0, ds0, p0, q0, hargs, rfl, rfl, h0, r0⟩ := trodAll_cons hA
  obtain ⟨rfl, rfl, rfl⟩ := trodAll_nil r0
  obtain rfl : args = #[v0] := by cases args; simp_all
  obtain ⟨rfl, rfl⟩ := trodVars_none hV
  have k0 := h0
  have lt0 : ∀ x ∈ p0, x.block < W.heap.size := by obtain ⟨m, hm⟩ := k0; exact DataW.trod_lt m _ _ _ hm
  obtain ⟨cs0, m0, rfl, hl0, hg0⟩ := open_fields Tryd.underlying26 (by kernel_rfl) (by kernel_rfl) (hval 0 26 v0 rfl rfl) h0
  obtain ⟨c1, c2, c3, c4, c5, c6, c7, rfl⟩ := len7 (hl0.trans rfl)
  obtain ⟨q_t8, y_t8, e_t8, t8⟩ := hg0 0 _ rfl
  obtain rfl : c1 = q_t8 := by simpa using e_t8
  obtain ⟨a9, e_a9, _, w_a9⟩ := DataW.trod_int Tryd.underlying3 t8
  obtain rfl : c1 = _ := by simpa using e_a9
  have b_a9 : -9223372036854775808 ≤ a9 ∧ a9 ≤ 9223372036854775807 := by simpa [Lit.wf, IntKind.min, IntKind.max, IntKind.signed, IntKind.bits] using w_a9
  obtain ⟨q_t10, y_t10, e_t10, t10⟩ := hg0 1 _ rfl
  obtain rfl : c2 = q_t10 := by simpa using e_t10
  obtain ⟨a11, e_a11, _, w_a11⟩ := DataW.trod_int Tryd.underlying3 t10
  obtain rfl : c2 = _ := by simpa using e_a11
  have b_a11 : -9223372036854775808 ≤ a11 ∧ a11 ≤ 9223372036854775807 := by simpa [Lit.wf, IntKind.min, IntKind.max, IntKind.signed, IntKind.bits] using w_a11
  obtain ⟨q_t12, y_t12, e_t12, t12⟩ := hg0 2 _ rfl
  obtain rfl : c3 = q_t12 := by simpa using e_t12
  obtain ⟨a13, e_a13, _, w_a13⟩ := DataW.trod_int Tryd.underlying3 t12
  obtain rfl : c3 = _ := by simpa using e_a13
  have b_a13 : -9223372036854775808 ≤ a13 ∧ a13 ≤ 9223372036854775807 := by simpa [Lit.wf, IntKind.min, IntKind.max, IntKind.signed, IntKind.bits] using w_a13
  obtain ⟨q_t14, y_t14, e_t14, t14⟩ := hg0 3 _ rfl
  obtain rfl : c4 = q_t14 := by simpa using e_t14
  obtain ⟨a15, e_a15, _⟩ := DataW.trod_bool Tryd.underlying4 t14
  obtain rfl : c4 = _ := by simpa using e_a15
  obtain ⟨q_t16, y_t16, e_t16, t16⟩ := hg0 4 _ rfl
  obtain rfl : c5 = q_t16 := by simpa using e_t16
  obtain ⟨a17, e_a17, _, w_a17⟩ := DataW.trod_int Tryd.underlying5 t16
  obtain rfl : c5 = _ := by simpa using e_a17
  have b_a17 : 0 ≤ a17 ∧ a17 ≤ 255 := by simpa [Lit.wf, IntKind.min, IntKind.max, IntKind.signed, IntKind.bits] using w_a17
  obtain ⟨q_t18, y_t18, e_t18, t18⟩ := hg0 5 _ rfl
  obtain rfl : c6 = q_t18 := by simpa using e_t18
  obtain ⟨A19, n20, c21, e_A19, L22, hl_L22, hn_L22, hc_L22, hw_L22, hr_L22⟩ := open_bytes_cell (k := .u8) (lo := 0) (hi := 255) Tryd.underlying23 Tryd.underlying5 (by kernel_rfl) (fun x hx => by simpa [Lit.wf, IntKind.min, IntKind.max, IntKind.signed, IntKind.bits] using hx) t18
  obtain rfl : c6 = _ := e_A19
  obtain ⟨q_t23, y_t23, e_t23, t23⟩ := hg0 6 _ rfl
  obtain rfl : c7 = q_t23 := by simpa using e_t23
  obtain ⟨A24, n25, c26, e_A24, L27, hl_L27, hn_L27, hc_L27, hw_L27, hr_L27⟩ := open_bytes_cell (k := .u8) (lo := 0) (hi := 255) Tryd.underlying23 Tryd.underlying5 (by kernel_rfl) (fun x hx => by simpa [Lit.wf, IntKind.min, IntKind.max, IntKind.signed, IntKind.bits] using hx) t23
  obtain rfl : c7 = _ := e_A24
  clear hA0
  refine (law_acts a9 a11 a13 a15 a17 A19 n20 c21 L22 A24 n25 c26 L27 W b_a9.1 b_a9.2 b_a11.1 b_a11.2 b_a13.1 b_a13.2 b_a17.1 b_a17.2 hl_L22 hn_L22 hc_L22 hw_L22 hr_L22 hl_L27 hn_L27 hc_L27 hw_L27 hr_L27 (tabW_row2 hL) (tabS_row2 hL)).mono fun e W' ⟨he, hup⟩ => ?_
  have bel : Below W.heap.size W W' := hup
  subst he
  exact ⟨_, rfl, _, _, _, [], _, [], hW', trodAll_mk1 (shut_bool Tryd.underlying4 _), (trodAll_cons_mk (Below.trod laidOut (by kernel_rfl) (of_decide_eq_true (by kernel_rfl)) k0 bel lt0) trodAll_mk0), rfl, bel.frame _, fun h => by cases h⟩


noncomputable def laidWorld (os : Os) : World :=
  { World.holding Tryd.prog os ⟨#[], #[], []⟩ with heap := (((World.holding Tryd.prog os ⟨#[], #[], []⟩).heap.modify 1 fun
      | .cells _ t frozen => .cells #[.string { data := #[78, 111, 116, 104, 105, 110, 103] }, .int .u8 3, .int .u8 3, .string { data := #[87, 114, 105, 116, 101] }, .int .u8 1, .int .u8 241, .string { data := #[69, 114, 97, 115, 101, 87, 114, 105, 116, 101] }, .int .u8 5, .int .u8 245, .string { data := #[69, 114, 97, 115, 101, 65, 108, 116, 101, 114, 110, 97, 116, 101] }, .int .u8 13, .int .u8 126, .string { data := #[69, 114, 97, 115, 101, 85, 110, 112, 114, 111, 116, 101, 99, 116, 101, 100] }, .int .u8 15, .int .u8 111, .string { data := #[82, 101, 97, 100, 66, 117, 102, 102, 101, 114] }, .int .u8 2, .int .u8 242, .string { data := #[82, 101, 97, 100, 77, 111, 100, 105, 102, 105, 101, 100] }, .int .u8 6, .int .u8 246, .string { data := #[82, 101, 97, 100, 65, 108, 108] }, .int .u8 14, .int .u8 110, .string { data := #[83, 116, 114, 117, 99, 116, 117, 114, 101, 100] }, .int .u8 17, .int .u8 243] t frozen
      | o => o).modify 0 fun
      | .cells _ t frozen => .cells #[.string { data := #[] }, .string { data := #[81, 117, 101, 114, 121] }, .string { data := #[81, 117, 101, 114, 121, 76, 105, 115, 116] }, .string { data := #[82, 101, 97, 100] }, .string { data := #[69, 114, 97, 115, 101] }, .string { data := #[77, 111, 100, 101] }, .string { data := #[67, 114, 101, 97, 116, 101] }, .string { data := #[68, 101, 115, 116, 114, 111, 121] }, .string { data := #[65, 99, 116, 105, 118, 97, 116, 101] }, .string { data := #[79, 117, 116, 98, 111, 117, 110, 100] }] t frozen
      | o => o) }
theorem laid_met (os : Os) : laidMet Tryd.prog Rows.sfieldActsRow.laid ((laidWorld os).forCall (fun _ _ => 0) ⟨#[], #[.agg #[.int .i64 0, .int .i64 0, .int .i64 0, .bool false, .int .u8 0, .slice none 0 0, .slice none 0 0]], []⟩).memory :=
  laidMet_of_run' 8 (by kernel_rfl) (by kernel_rfl)
theorem reads (os : Os) {H : Type} (enc : TypeId × Value → H) : ∃ places, DataW.whole enc Tryd.prog ((laidWorld os).forCall (fun _ _ => 0) ⟨#[], #[.agg #[.int .i64 0, .int .i64 0, .int .i64 0, .bool false, .int .u8 0, .slice none 0 0, .slice none 0 0]], []⟩).memory Tryd.f6.params.toList Rows.sfieldActsSpec.vars false #[.agg #[.int .i64 0, .int .i64 0, .int .i64 0, .bool false, .int .u8 0, .slice none 0 0, .slice none 0 0]].toList 8 = some ([.agg [.lit (.int .i64 0), .lit (.int .i64 0), .lit (.int .i64 0), .lit (.bool false), .lit (.int .u8 0), .nil, .nil]], [], places) :=
  ⟨[], by kernel_rfl⟩

set_option maxRecDepth 100000 in
theorem lifted (os : Os) (started : os.Started) (H : Type) (enc : TypeId × Value → H) (F : Stop.Interp) :
    ReturnsInHanded {} Tryd.checked os 6 .any ((OpenSpec.ofChange Rows.sfieldActsSpec).preRow enc Tryd.prog Tryd.f6 Rows.sfieldActsRow.domain false Rows.sfieldActsRow.laid) (((OpenSpec.ofChange Rows.sfieldActsSpec).at F).post enc Tryd.prog Tryd.f6 false true false false) := by
  obtain ⟨places, hx⟩ := reads os enc
  refine returnsInHanded_of_row (C := Tryd.checked) (s := OpenSpec.ofChange Rows.sfieldActsSpec) own started (by kernel_rfl) Tryd.func6
    (witness_row_at (enc := enc) (C := Tryd.checked) false (laidWorld os) #[.agg #[.int .i64 0, .int .i64 0, .int .i64 0, .bool false, .int .u8 0, .slice none 0 0, .slice none 0 0]] rfl (by kernel_rfl) (by kernel_rfl) (by kernel_rfl)
      (OpenSpec.preRow_of_cond 8 hx (by kernel_rfl) (fun k hk => by cases hk) (by kernel_rfl) (laid_met os))) ?_
  intro W base args ds gs before hval hW _ _ _ hL _ _
  exact contract H enc W base args ds gs before hval hW hL

theorem said : Rows.SfieldActsSaid :=
  OpenClaim.holds_of_cond 6 Tryd.f6 rfl rfl rfl rfl rfl rfl rfl ⟨rfl, rfl, rfl, rfl, rfl⟩ rfl rfl rfl rfl rfl (by kernel_rfl) Tryd.func6 (by kernel_rfl)
    (of_decide_eq_true (by kernel_rfl)) (by unfold Func.isWrapper; first | (rw [if_pos (by decide +kernel)]; kernel_rfl) | (rw [if_neg (by decide +kernel)]; exact ⟨rfl, rfl⟩))
    (fun os started H enc _ F => by rw [OpenClaim.pre_eq_preRow]; exact lifted os started H enc F)

theorem plain (f : FuncId) (fn : Func) (hf : Tryd.pinned.checked.prog.funcNamed Tryd.f6.name = some f) (hfn : Tryd.pinned.checked.prog.funcs[f]? = some fn) :
    false = Tryd.pinned.checked.prog.looks [] ∧ ∀ (j : Nat) t, fn.params[j]? = some t → Tryd.pinned.checked.prog.wantsStandIn t = false := by
  obtain rfl : f = 6 := Option.some.inj ((show Tryd.prog.funcNamed Tryd.f6.name = some 6 by kernel_rfl).symm.trans hf) |>.symm
  obtain rfl : fn = Tryd.f6 := (Option.some.inj (Tryd.func6.symm.trans hfn)).symm
  refine ⟨by kernel_rfl, fun j t ht => ?_⟩
  rw [Tryd.params6] at ht
  have hm := Array.mem_of_getElem? ht
  obtain rfl : t = 26 := by simpa using hm
  exact (show Tryd.prog.wantsStandIn 26 = false by kernel_rfl)

theorem proved : Rows.SfieldActsCardSaid :=
  Claim7.holds_tied_plain_at .later [] _ _ _ _ said (fun _ h => by cases h) (by kernel_rfl) (fun _ h => by cases h) sfieldActs_row_tie rfl ⟨rfl, rfl⟩ (by kernel_rfl) rfl plain (by kernel_rfl)
#print axioms proved
end Go.Proofs.YtfambgigdhkiaaaDoor.sfieldActs
