/-
  The given statement of SfieldReads: for every input it returns true and leaves its arguments as they were. No condition.
-/
import Derived.Test.YtfambgigdhkiaaaDoorLaw21a
import Derived.Test.YtfambgigdhkiaaaDoorOpen
import Derived.Test.YtfambgigdhkiaaaDoorDoor21
import Derived.Test.YtfambgigdhkiaaaDoorCards
import Derived.Test.YtfambgigdhkiaaaDoorTie
import Derived.Deep.DeepHandedRow
namespace Go.Proofs.YtfambgigdhkiaaaDoor.sfieldReads
open Go.ChangeShapes Go.WideShapes Go.ChangeAt Go.RowKit Go.Joins Go.Deep
open Go.ChangeMaps (open_string shut_string)
set_option linter.unusedVariables false
set_option linter.unusedSimpArgs false

set_option maxRecDepth 100000 in
theorem contract (H : Type) (enc : TypeId × Value → H) (W : World) (base : Nat) (args : Array Value) (ds gs : List (DataW H)) (before : List MemPlace)
    (hval : ∀ (j : Nat) t v, Tryd.f5.params[j]? = some t → args[j]? = some v → Value.okWide Tryd.prog W .any base t v)
    (hW : DataW.Whole enc Tryd.prog Tryd.f5.params.toList Rows.sfieldReadsSpec.vars false W args.toList ds gs before) (hL : laidMetH Tryd.prog Rows.sfieldReadsRow.laid W) :
    Calls Tryd.prog 5 args W fun e W' => ∃ v, e = .returned v ∧ Rows.sfieldReadsSpec.post enc Tryd.prog Tryd.f5 false true false false W args v W' := by
  have hW' := hW
  obtain ⟨p, q, hA0, hV, rfl, hfz, hnd⟩ := hW
  have hA : DataW.TrodAll enc Tryd.prog W 0 (fun _ => true) true Tryd.f5.params.toList args.toList ds p := hA0
  rw [Tryd.params5] at hA hval
  obtain ⟨v0, vs0, d0, ds0, p0, q0, hargs, rfl, rfl, h0, r0⟩ := trodAll_cons hA
  obtain ⟨v1, vs1, d1, ds1, p1, q1, rfl, rfl, rfl, h1, r1⟩ := trodAll_cons r0
  obtain ⟨rfl, rfl, rfl⟩ := trodAll_nil r1
  obtain rfl : args = #[v0, v1] := by cases args; simp_all
  obtain ⟨rfl, rfl⟩ := trodVars_none hV
  have k0 := h0
  have lt0 : ∀ x ∈ p0, x.block < W.heap.size := by obtain ⟨m, hm⟩ := k0; exact DataW.trod_lt m _ _ _ hm
  obtain ⟨A1, n2, c3, rfl⟩ := okWide_slice Tryd.underlying23 (hval 0 23 v0 rfl rfl)
  obtain ⟨L4, hl_L4, hn_L4, hc_L4, hw_L4, hr_L4⟩ : ∃ l : List Int, l.length = n2 ∧ n2 ≤ c3 ∧ c3 ≤ maxLen ∧ (∀ x ∈ l, 0 ≤ x ∧ x ≤ 255) ∧ Reads W W.heap.size 1 A1 n2 (l.map (Value.int .u8)) := by
    obtain ⟨fuel, hf⟩ := h0
    exact open_bytes (k := .u8) (lo := 0) (hi := 255) Tryd.underlying23 Tryd.underlying5 (by kernel_rfl) (fun x hx => by simpa [Lit.wf, IntKind.min, IntKind.max, IntKind.signed, IntKind.bits] using hx) hf
  have k1 := h1
  have lt1 : ∀ x ∈ p1, x.block < W.heap.size := by obtain ⟨m, hm⟩ := k1; exact DataW.trod_lt m _ _ _ hm
  obtain ⟨a5, rfl, _, _, w_a5⟩ := open_int Tryd.underlying5 (hval 1 5 v1 rfl rfl) h1
  have b_a5 : 0 ≤ a5 ∧ a5 ≤ 255 := by simpa [Lit.wf, IntKind.min, IntKind.max, IntKind.signed, IntKind.bits] using w_a5
  clear hA0
  refine (law_reads A1 n2 c3 L4 a5 W hl_L4 hn_L4 hc_L4 hw_L4 hr_L4 b_a5.1 b_a5.2 (tabW_row hL)).mono fun e W' ⟨he, hup⟩ => ?_
  have bel : Below W.heap.size W W' := hup
  subst he
  exact ⟨_, rfl, _, _, _, [], _, [], hW', trodAll_mk1 (shut_bool Tryd.underlying4 _), (trodAll_cons_mk (Below.trod laidOut (by kernel_rfl) (of_decide_eq_true (by kernel_rfl)) k0 bel lt0) (trodAll_cons_mk (Below.trod laidOut (by kernel_rfl) (of_decide_eq_true (by kernel_rfl)) k1 bel lt1) trodAll_mk0)), rfl, bel.frame _, fun h => by cases h⟩


noncomputable def laidWorld (os : Os) : World :=
  { World.holding Tryd.prog os ⟨#[], #[], []⟩ with heap := ((World.holding Tryd.prog os ⟨#[], #[], []⟩).heap.modify 1 fun
      | .cells _ t frozen => .cells #[.string { data := #[78, 111, 116, 104, 105, 110, 103] }, .int .u8 3, .int .u8 3, .string { data := #[87, 114, 105, 116, 101] }, .int .u8 1, .int .u8 241, .string { data := #[69, 114, 97, 115, 101, 87, 114, 105, 116, 101] }, .int .u8 5, .int .u8 245, .string { data := #[69, 114, 97, 115, 101, 65, 108, 116, 101, 114, 110, 97, 116, 101] }, .int .u8 13, .int .u8 126, .string { data := #[69, 114, 97, 115, 101, 85, 110, 112, 114, 111, 116, 101, 99, 116, 101, 100] }, .int .u8 15, .int .u8 111, .string { data := #[82, 101, 97, 100, 66, 117, 102, 102, 101, 114] }, .int .u8 2, .int .u8 242, .string { data := #[82, 101, 97, 100, 77, 111, 100, 105, 102, 105, 101, 100] }, .int .u8 6, .int .u8 246, .string { data := #[82, 101, 97, 100, 65, 108, 108] }, .int .u8 14, .int .u8 110, .string { data := #[83, 116, 114, 117, 99, 116, 117, 114, 101, 100] }, .int .u8 17, .int .u8 243] t frozen
      | o => o) }
theorem laid_met (os : Os) : laidMet Tryd.prog Rows.sfieldReadsRow.laid ((laidWorld os).forCall (fun _ _ => 0) ⟨#[], #[.slice none 0 0, .int .u8 0], []⟩).memory :=
  laidMet_of_run' 8 (by kernel_rfl) (by kernel_rfl)
theorem reads (os : Os) {H : Type} (enc : TypeId × Value → H) : ∃ places, DataW.whole enc Tryd.prog ((laidWorld os).forCall (fun _ _ => 0) ⟨#[], #[.slice none 0 0, .int .u8 0], []⟩).memory Tryd.f5.params.toList Rows.sfieldReadsSpec.vars false #[.slice none 0 0, .int .u8 0].toList 8 = some ([.nil, .lit (.int .u8 0)], [], places) :=
  ⟨[], by kernel_rfl⟩

set_option maxRecDepth 100000 in
theorem lifted (os : Os) (started : os.Started) (H : Type) (enc : TypeId × Value → H) (F : Stop.Interp) :
    ReturnsInHanded {} Tryd.checked os 5 .any ((OpenSpec.ofChange Rows.sfieldReadsSpec).preRow enc Tryd.prog Tryd.f5 Rows.sfieldReadsRow.domain false Rows.sfieldReadsRow.laid) (((OpenSpec.ofChange Rows.sfieldReadsSpec).at F).post enc Tryd.prog Tryd.f5 false true false false) := by
  obtain ⟨places, hx⟩ := reads os enc
  refine returnsInHanded_of_row (C := Tryd.checked) (s := OpenSpec.ofChange Rows.sfieldReadsSpec) own started (by kernel_rfl) Tryd.func5
    (witness_row_at (enc := enc) (C := Tryd.checked) false (laidWorld os) #[.slice none 0 0, .int .u8 0] rfl (by kernel_rfl) (by kernel_rfl) (by kernel_rfl)
      (OpenSpec.preRow_of_cond 8 hx (by kernel_rfl) (fun k hk => by cases hk) (by kernel_rfl) (laid_met os))) ?_
  intro W base args ds gs before hval hW _ _ _ hL _ _
  exact contract H enc W base args ds gs before hval hW hL

theorem said : Rows.SfieldReadsSaid :=
  OpenClaim.holds_of_cond 5 Tryd.f5 rfl rfl rfl rfl rfl rfl rfl ⟨rfl, rfl, rfl, rfl, rfl⟩ rfl rfl rfl rfl rfl (by kernel_rfl) Tryd.func5 (by kernel_rfl)
    (of_decide_eq_true (by kernel_rfl)) (by unfold Func.isWrapper; first | (rw [if_pos (by decide +kernel)]; kernel_rfl) | (rw [if_neg (by decide +kernel)]; exact ⟨rfl, rfl⟩))
    (fun os started H enc _ F => by rw [OpenClaim.pre_eq_preRow]; exact lifted os started H enc F)

theorem plain (f : FuncId) (fn : Func) (hf : Tryd.pinned.checked.prog.funcNamed Tryd.f5.name = some f) (hfn : Tryd.pinned.checked.prog.funcs[f]? = some fn) :
    false = Tryd.pinned.checked.prog.looks [] ∧ ∀ (j : Nat) t, fn.params[j]? = some t → Tryd.pinned.checked.prog.wantsStandIn t = false := by
  obtain rfl : f = 5 := Option.some.inj ((show Tryd.prog.funcNamed Tryd.f5.name = some 5 by kernel_rfl).symm.trans hf) |>.symm
  obtain rfl : fn = Tryd.f5 := (Option.some.inj (Tryd.func5.symm.trans hfn)).symm
  refine ⟨by kernel_rfl, fun j t ht => ?_⟩
  rw [Tryd.params5] at ht
  have hm := Array.mem_of_getElem? ht
  obtain rfl | rfl : t = 23 ∨ t = 5 := by simpa using hm
  · exact (show Tryd.prog.wantsStandIn 23 = false by kernel_rfl)
  · exact (show Tryd.prog.wantsStandIn 5 = false by kernel_rfl)

theorem proved : Rows.SfieldReadsCardSaid :=
  Claim7.holds_tied_plain_at .later [] _ _ _ _ said (fun _ h => by cases h) (by kernel_rfl) (fun _ h => by cases h) sfieldReads_row_tie rfl ⟨rfl, rfl⟩ (by kernel_rfl) rfl plain (by kernel_rfl)
#print axioms proved
end Go.Proofs.YtfambgigdhkiaaaDoor.sfieldReads
