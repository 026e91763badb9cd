/-
  The given statement of SfieldRecords: for every input it returns true and leaves its arguments as they were. No condition.
-/
import Derived.Test.YtfambgigdhkiaaaDoorLaw21f
import Derived.Test.YtfambgigdhkiaaaDoorOpen
import Derived.Test.YtfambgigdhkiaaaDoorDoor21
import Derived.Test.YtfambgigdhkiaaaDoorOpenF
import Derived.Test.YtfambgigdhkiaaaDoorCards
import Derived.Test.YtfambgigdhkiaaaDoorTie
import Derived.Deep.DeepHandedRow
namespace Go.Proofs.YtfambgigdhkiaaaDoor.sfieldRecords
open Go.ChangeShapes Go.WideShapes Go.ChangeAt Go.RowKit Go.Joins Go.Deep
open Go.ChangeMaps (open_string shut_string)
set_option linter.unusedVariables false
set_option linter.unusedSimpArgs false

set_option maxRecDepth 100000 in
theorem contract (H : Type) (enc : TypeId × Value → H) (W : World) (base : Nat) (args : Array Value) (ds gs : List (DataW H)) (before : List MemPlace)
    (hval : ∀ (j : Nat) t v, Tryd.f7.params[j]? = some t → args[j]? = some v → Value.okWide Tryd.prog W .any base t v)
    (hW : DataW.Whole enc Tryd.prog Tryd.f7.params.toList Rows.sfieldRecordsSpec.vars false W args.toList ds gs before) (hL : laidMetH Tryd.prog Rows.sfieldRecordsRow.laid W) :
    Calls Tryd.prog 7 args W fun e W' => ∃ v, e = .returned v ∧ Rows.sfieldRecordsSpec.post enc Tryd.prog Tryd.f7 false true false false W args v W' := by
  have hW' := hW
  obtain ⟨p, q, hA0, hV, rfl, hfz, hnd⟩ := hW
  have hA : DataW.TrodAll enc Tryd.prog W 0 (fun _ => true) true Tryd.f7.params.toList args.toList ds p := hA0
  rw [Tryd.params7] at hA hval
  obtain ⟨v0, vs0, d0, ds0, p0, q0, hargs, rfl, rfl, h0, r0⟩ := trodAll_cons hA
  obtain ⟨rfl, rfl, rfl⟩ := trodAll_nil r0
  obtain rfl : args = #[v0] := by cases args; simp_all
  obtain ⟨rfl, rfl⟩ := trodVars_none hV
  have k0 := h0
  have lt0 : ∀ x ∈ p0, x.block < W.heap.size := by obtain ⟨m, hm⟩ := k0; exact DataW.trod_lt m _ _ _ hm
  obtain ⟨A1, n2, c3, rfl⟩ := okWide_slice Tryd.underlying22 (hval 0 22 v0 rfl rfl)
  obtain ⟨L4, hl_L4, hn_L4, hc_L4, hw_L4, hr_L4⟩ : ∃ l : List (Int × Int × Int × Bool × Int × Option Addr × Nat × Nat × List Int × Option Addr × Nat × Nat × List Int), l.length = n2 ∧ n2 ≤ c3 ∧ c3 ≤ maxLen ∧ (∀ x ∈ l, -9223372036854775808 ≤ x.1 ∧ x.1 ≤ 9223372036854775807 ∧ -9223372036854775808 ≤ x.2.1 ∧ x.2.1 ≤ 9223372036854775807 ∧ -9223372036854775808 ≤ x.2.2.1 ∧ x.2.2.1 ≤ 9223372036854775807 ∧ 0 ≤ x.2.2.2.2.1 ∧ x.2.2.2.2.1 ≤ 255 ∧ x.2.2.2.2.2.2.2.2.1.length = x.2.2.2.2.2.2.1 ∧ x.2.2.2.2.2.2.1 ≤ x.2.2.2.2.2.2.2.1 ∧ x.2.2.2.2.2.2.2.1 ≤ maxLen ∧ (∀ z ∈ x.2.2.2.2.2.2.2.2.1, 0 ≤ z ∧ z ≤ 255) ∧ Reads W W.heap.size 1 x.2.2.2.2.2.1 x.2.2.2.2.2.2.1 (x.2.2.2.2.2.2.2.2.1.map (Value.int .u8)) ∧ x.2.2.2.2.2.2.2.2.2.2.2.2.length = x.2.2.2.2.2.2.2.2.2.2.1 ∧ x.2.2.2.2.2.2.2.2.2.2.1 ≤ x.2.2.2.2.2.2.2.2.2.2.2.1 ∧ x.2.2.2.2.2.2.2.2.2.2.2.1 ≤ maxLen ∧ (∀ z ∈ x.2.2.2.2.2.2.2.2.2.2.2.2, 0 ≤ z ∧ z ≤ 255) ∧ Reads W W.heap.size 1 x.2.2.2.2.2.2.2.2.2.1 x.2.2.2.2.2.2.2.2.2.2.1 (x.2.2.2.2.2.2.2.2.2.2.2.2.map (Value.int .u8))) ∧ Reads W W.heap.size 7 A1 n2 (l.flatMap (fun x : Int × Int × Int × Bool × Int × Option Addr × Nat × Nat × List Int × Option Addr × Nat × Nat × List Int => [.int .i64 x.1, .int .i64 x.2.1, .int .i64 x.2.2.1, .bool x.2.2.2.1, .int .u8 x.2.2.2.2.1, .slice x.2.2.2.2.2.1 x.2.2.2.2.2.2.1 x.2.2.2.2.2.2.2.1, .slice x.2.2.2.2.2.2.2.2.2.1 x.2.2.2.2.2.2.2.2.2.2.1 x.2.2.2.2.2.2.2.2.2.2.2.1])) := by
    obtain ⟨fuel, hf⟩ := h0
    refine open_structs (k := 7) (enc' := fun x : Int × Int × Int × Bool × Int × Option Addr × Nat × Nat × List Int × Option Addr × Nat × Nat × List Int => [.int .i64 x.1, .int .i64 x.2.1, .int .i64 x.2.2.1, .bool x.2.2.2.1, .int .u8 x.2.2.2.2.1, .slice x.2.2.2.2.2.1 x.2.2.2.2.2.2.1 x.2.2.2.2.2.2.2.1, .slice x.2.2.2.2.2.2.2.2.2.1 x.2.2.2.2.2.2.2.2.2.2.1 x.2.2.2.2.2.2.2.2.2.2.2.1]) (Q := fun x => -9223372036854775808 ≤ x.1 ∧ x.1 ≤ 9223372036854775807 ∧ -9223372036854775808 ≤ x.2.1 ∧ x.2.1 ≤ 9223372036854775807 ∧ -9223372036854775808 ≤ x.2.2.1 ∧ x.2.2.1 ≤ 9223372036854775807 ∧ 0 ≤ x.2.2.2.2.1 ∧ x.2.2.2.2.1 ≤ 255 ∧ x.2.2.2.2.2.2.2.2.1.length = x.2.2.2.2.2.2.1 ∧ x.2.2.2.2.2.2.1 ≤ x.2.2.2.2.2.2.2.1 ∧ x.2.2.2.2.2.2.2.1 ≤ maxLen ∧ (∀ z ∈ x.2.2.2.2.2.2.2.2.1, 0 ≤ z ∧ z ≤ 255) ∧ Reads W W.heap.size 1 x.2.2.2.2.2.1 x.2.2.2.2.2.2.1 (x.2.2.2.2.2.2.2.2.1.map (Value.int .u8)) ∧ x.2.2.2.2.2.2.2.2.2.2.2.2.length = x.2.2.2.2.2.2.2.2.2.2.1 ∧ x.2.2.2.2.2.2.2.2.2.2.1 ≤ x.2.2.2.2.2.2.2.2.2.2.2.1 ∧ x.2.2.2.2.2.2.2.2.2.2.2.1 ≤ maxLen ∧ (∀ z ∈ x.2.2.2.2.2.2.2.2.2.2.2.2, 0 ≤ z ∧ z ≤ 255) ∧ Reads W W.heap.size 1 x.2.2.2.2.2.2.2.2.2.1 x.2.2.2.2.2.2.2.2.2.2.1 (x.2.2.2.2.2.2.2.2.2.2.2.2.map (Value.int .u8))) Tryd.underlying22 Tryd.underlying26 (by kernel_rfl) (by kernel_rfl) (by decide) rfl (fun x => rfl) hf ?_
    intro cs m hl hg
    obtain ⟨c5, c6, c7, c8, c9, c10, c11, rfl⟩ := len7 hl
    obtain ⟨q_t12, y_t12, e_t12, t12⟩ := hg 0 _ rfl
    obtain rfl : c5 = q_t12 := by simpa using e_t12
    obtain ⟨a13, e_a13, _, w_a13⟩ := DataW.trod_int Tryd.underlying3 t12
    obtain rfl : c5 = _ := by simpa using e_a13
    have b_a13 : -9223372036854775808 ≤ a13 ∧ a13 ≤ 9223372036854775807 := by simpa [Lit.wf, IntKind.min, IntKind.max, IntKind.signed, IntKind.bits] using w_a13
    obtain ⟨q_t14, y_t14, e_t14, t14⟩ := hg 1 _ rfl
    obtain rfl : c6 = q_t14 := by simpa using e_t14
    obtain ⟨a15, e_a15, _, w_a15⟩ := DataW.trod_int Tryd.underlying3 t14
    obtain rfl : c6 = _ := by simpa using e_a15
    have b_a15 : -9223372036854775808 ≤ a15 ∧ a15 ≤ 9223372036854775807 := by simpa [Lit.wf, IntKind.min, IntKind.max, IntKind.signed, IntKind.bits] using w_a15
    obtain ⟨q_t16, y_t16, e_t16, t16⟩ := hg 2 _ rfl
    obtain rfl : c7 = q_t16 := by simpa using e_t16
    obtain ⟨a17, e_a17, _, w_a17⟩ := DataW.trod_int Tryd.underlying3 t16
    obtain rfl : c7 = _ := by simpa using e_a17
    have b_a17 : -9223372036854775808 ≤ a17 ∧ a17 ≤ 9223372036854775807 := by simpa [Lit.wf, IntKind.min, IntKind.max, IntKind.signed, IntKind.bits] using w_a17
    obtain ⟨q_t18, y_t18, e_t18, t18⟩ := hg 3 _ rfl
    obtain rfl : c8 = q_t18 := by simpa using e_t18
    obtain ⟨a19, e_a19, _⟩ := DataW.trod_bool Tryd.underlying4 t18
    obtain rfl : c8 = _ := by simpa using e_a19
    obtain ⟨q_t20, y_t20, e_t20, t20⟩ := hg 4 _ rfl
    obtain rfl : c9 = q_t20 := by simpa using e_t20
    obtain ⟨a21, e_a21, _, w_a21⟩ := DataW.trod_int Tryd.underlying5 t20
    obtain rfl : c9 = _ := by simpa using e_a21
    have b_a21 : 0 ≤ a21 ∧ a21 ≤ 255 := by simpa [Lit.wf, IntKind.min, IntKind.max, IntKind.signed, IntKind.bits] using w_a21
    obtain ⟨q_t22, y_t22, e_t22, t22⟩ := hg 5 _ rfl
    obtain rfl : c10 = q_t22 := by simpa using e_t22
    obtain ⟨A23, n24, c25, e_A23, L26, hl_L26, hn_L26, hc_L26, hw_L26, hr_L26⟩ := open_bytes_cell (k := .u8) (lo := 0) (hi := 255) Tryd.underlying23 Tryd.underlying5 (by kernel_rfl) (fun x hx => by simpa [Lit.wf, IntKind.min, IntKind.max, IntKind.signed, IntKind.bits] using hx) t22
    obtain rfl : c10 = _ := e_A23
    obtain ⟨q_t27, y_t27, e_t27, t27⟩ := hg 6 _ rfl
    obtain rfl : c11 = q_t27 := by simpa using e_t27
    obtain ⟨A28, n29, c30, e_A28, L31, hl_L31, hn_L31, hc_L31, hw_L31, hr_L31⟩ := open_bytes_cell (k := .u8) (lo := 0) (hi := 255) Tryd.underlying23 Tryd.underlying5 (by kernel_rfl) (fun x hx => by simpa [Lit.wf, IntKind.min, IntKind.max, IntKind.signed, IntKind.bits] using hx) t27
    obtain rfl : c11 = _ := e_A28
    exact ⟨(a13, a15, a17, a19, a21, A23, n24, c25, L26, A28, n29, c30, L31), ⟨b_a13.1, b_a13.2, b_a15.1, b_a15.2, b_a17.1, b_a17.2, b_a21.1, b_a21.2, hl_L26, hn_L26, hc_L26, hw_L26, hr_L26, hl_L31, hn_L31, hc_L31, hw_L31, hr_L31⟩, rfl⟩
  clear hA0
  refine (law_records A1 n2 c3 L4 W hl_L4 hn_L4 hc_L4 hw_L4 hr_L4 (tabW_row hL)).mono fun e W' ⟨he, hup⟩ => ?_
  have bel : Below W.heap.size W W' := hup
  subst he
  exact ⟨_, rfl, _, _, _, [], _, [], hW', trodAll_mk1 (shut_bool Tryd.underlying4 _), (trodAll_cons_mk (Below.trod laidOut (by kernel_rfl) (of_decide_eq_true (by kernel_rfl)) k0 bel lt0) trodAll_mk0), rfl, bel.frame _, fun h => by cases h⟩


noncomputable def laidWorld (os : Os) : World :=
  { World.holding Tryd.prog os ⟨#[], #[], []⟩ with heap := ((World.holding Tryd.prog os ⟨#[], #[], []⟩).heap.modify 1 fun
      | .cells _ t frozen => .cells #[.string { data := #[78, 111, 116, 104, 105, 110, 103] }, .int .u8 3, .int .u8 3, .string { data := #[87, 114, 105, 116, 101] }, .int .u8 1, .int .u8 241, .string { data := #[69, 114, 97, 115, 101, 87, 114, 105, 116, 101] }, .int .u8 5, .int .u8 245, .string { data := #[69, 114, 97, 115, 101, 65, 108, 116, 101, 114, 110, 97, 116, 101] }, .int .u8 13, .int .u8 126, .string { data := #[69, 114, 97, 115, 101, 85, 110, 112, 114, 111, 116, 101, 99, 116, 101, 100] }, .int .u8 15, .int .u8 111, .string { data := #[82, 101, 97, 100, 66, 117, 102, 102, 101, 114] }, .int .u8 2, .int .u8 242, .string { data := #[82, 101, 97, 100, 77, 111, 100, 105, 102, 105, 101, 100] }, .int .u8 6, .int .u8 246, .string { data := #[82, 101, 97, 100, 65, 108, 108] }, .int .u8 14, .int .u8 110, .string { data := #[83, 116, 114, 117, 99, 116, 117, 114, 101, 100] }, .int .u8 17, .int .u8 243] t frozen
      | o => o) }
theorem laid_met (os : Os) : laidMet Tryd.prog Rows.sfieldRecordsRow.laid ((laidWorld os).forCall (fun _ _ => 0) ⟨#[], #[.slice none 0 0], []⟩).memory :=
  laidMet_of_run' 8 (by kernel_rfl) (by kernel_rfl)
theorem reads (os : Os) {H : Type} (enc : TypeId × Value → H) : ∃ places, DataW.whole enc Tryd.prog ((laidWorld os).forCall (fun _ _ => 0) ⟨#[], #[.slice none 0 0], []⟩).memory Tryd.f7.params.toList Rows.sfieldRecordsSpec.vars false #[.slice none 0 0].toList 8 = some ([.nil], [], places) :=
  ⟨[], by kernel_rfl⟩

set_option maxRecDepth 100000 in
theorem lifted (os : Os) (started : os.Started) (H : Type) (enc : TypeId × Value → H) (F : Stop.Interp) :
    ReturnsInHanded {} Tryd.checked os 7 .any ((OpenSpec.ofChange Rows.sfieldRecordsSpec).preRow enc Tryd.prog Tryd.f7 Rows.sfieldRecordsRow.domain false Rows.sfieldRecordsRow.laid) (((OpenSpec.ofChange Rows.sfieldRecordsSpec).at F).post enc Tryd.prog Tryd.f7 false true false false) := by
  obtain ⟨places, hx⟩ := reads os enc
  refine returnsInHanded_of_row (C := Tryd.checked) (s := OpenSpec.ofChange Rows.sfieldRecordsSpec) own started (by kernel_rfl) Tryd.func7
    (witness_row_at (enc := enc) (C := Tryd.checked) false (laidWorld os) #[.slice none 0 0] rfl (by kernel_rfl) (by kernel_rfl) (by kernel_rfl)
      (OpenSpec.preRow_of_cond 8 hx (by kernel_rfl) (fun k hk => by cases hk) (by kernel_rfl) (laid_met os))) ?_
  intro W base args ds gs before hval hW _ _ _ hL _ _
  exact contract H enc W base args ds gs before hval hW hL

theorem said : Rows.SfieldRecordsSaid :=
  OpenClaim.holds_of_cond 7 Tryd.f7 rfl rfl rfl rfl rfl rfl rfl ⟨rfl, rfl, rfl, rfl, rfl⟩ rfl rfl rfl rfl rfl (by kernel_rfl) Tryd.func7 (by kernel_rfl)
    (of_decide_eq_true (by kernel_rfl)) (by unfold Func.isWrapper; first | (rw [if_pos (by decide +kernel)]; kernel_rfl) | (rw [if_neg (by decide +kernel)]; exact ⟨rfl, rfl⟩))
    (fun os started H enc _ F => by rw [OpenClaim.pre_eq_preRow]; exact lifted os started H enc F)

theorem plain (f : FuncId) (fn : Func) (hf : Tryd.pinned.checked.prog.funcNamed Tryd.f7.name = some f) (hfn : Tryd.pinned.checked.prog.funcs[f]? = some fn) :
    false = Tryd.pinned.checked.prog.looks [] ∧ ∀ (j : Nat) t, fn.params[j]? = some t → Tryd.pinned.checked.prog.wantsStandIn t = false := by
  obtain rfl : f = 7 := Option.some.inj ((show Tryd.prog.funcNamed Tryd.f7.name = some 7 by kernel_rfl).symm.trans hf) |>.symm
  obtain rfl : fn = Tryd.f7 := (Option.some.inj (Tryd.func7.symm.trans hfn)).symm
  refine ⟨by kernel_rfl, fun j t ht => ?_⟩
  rw [Tryd.params7] at ht
  have hm := Array.mem_of_getElem? ht
  obtain rfl : t = 22 := by simpa using hm
  exact (show Tryd.prog.wantsStandIn 22 = false by kernel_rfl)

theorem proved : Rows.SfieldRecordsCardSaid :=
  Claim7.holds_tied_plain_at .later [] _ _ _ _ said (fun _ h => by cases h) (by kernel_rfl) (fun _ h => by cases h) sfieldRecords_row_tie rfl ⟨rfl, rfl⟩ (by kernel_rfl) rfl plain (by kernel_rfl)
#print axioms proved
end Go.Proofs.YtfambgigdhkiaaaDoor.sfieldRecords
