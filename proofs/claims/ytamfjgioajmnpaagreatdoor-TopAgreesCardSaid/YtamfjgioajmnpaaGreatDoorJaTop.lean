/-
  The given statement of TopAgrees: for every input it returns true and leaves its arguments as they were. No condition.
-/
import Derived.Test.YtamfjgioajmnpaaGreatDoorJa49
import Derived.Test.YtamfjgioajmnpaaGreatDoorJa1
import Derived.Test.YtamfjgioajmnpaaGreatDoorJa50
import Derived.Test.YtamfjgioajmnpaaGreatDoorCards
import Derived.Test.YtamfjgioajmnpaaGreatDoorTie
import Derived.Deep.DeepHandedRow
namespace Go.Proofs.YtamfjgioajmnpaaGreatDoor.topAgrees
open Go.ChangeShapes Go.WideShapes Go.ChangeAt Go.RowKit Go.Joins Go.Deep
open Go.ChangeMaps (open_string shut_string)
set_option linter.unusedVariables false
set_option linter.unusedSimpArgs false

set_option maxRecDepth 100000 in
theorem contract (H : Type) (enc : TypeId × Value → H) (W : World) (base : Nat) (args : Array Value) (ds gs : List (DataW H)) (before : List MemPlace)
    (hval : ∀ (j : Nat) t v, Tryz.f5.params[j]? = some t → args[j]? = some v → Value.okWide Tryz.prog W .any base t v)
    (hW : DataW.Whole enc Tryz.prog Tryz.f5.params.toList Rows.topAgreesSpec.vars false W args.toList ds gs before) (hL : laidMetH Tryz.prog Rows.topAgreesRow.laid W) :
    Calls Tryz.prog 5 args W fun e W' => ∃ v, e = .returned v ∧ Rows.topAgreesSpec.post enc Tryz.prog Tryz.f5 false true false false W args v W' := by
  have hW' := hW
  obtain ⟨p, q, hA0, hV, rfl, hfz, hnd⟩ := hW
  have hA : DataW.TrodAll enc Tryz.prog W 0 (fun _ => true) true Tryz.f5.params.toList args.toList ds p := hA0
  rw [Tryz.params5] at hA hval
  obtain ⟨v0, vs0, d0, ds0, p0, q0, hargs, rfl, rfl, h0, r0⟩ := trodAll_cons hA
  obtain ⟨v1, vs1, d1, ds1, p1, q1, rfl, rfl, rfl, h1, r1⟩ := trodAll_cons r0
  obtain ⟨v2, vs2, d2, ds2, p2, q2, rfl, rfl, rfl, h2, r2⟩ := trodAll_cons r1
  obtain ⟨v3, vs3, d3, ds3, p3, q3, rfl, rfl, rfl, h3, r3⟩ := trodAll_cons r2
  obtain ⟨rfl, rfl, rfl⟩ := trodAll_nil r3
  obtain rfl : args = #[v0, v1, v2, v3] := by cases args; simp_all
  obtain ⟨rfl, rfl⟩ := trodVars_none hV
  have k0 := h0
  have lt0 : ∀ x ∈ p0, x.block < W.heap.size := by obtain ⟨m, hm⟩ := k0; exact DataW.trod_lt m _ _ _ hm
  obtain ⟨a1, rfl, _, _⟩ := open_bool Tryz.underlying4 (hval 0 4 v0 rfl rfl) h0
  have k1 := h1
  have lt1 : ∀ x ∈ p1, x.block < W.heap.size := by obtain ⟨m, hm⟩ := k1; exact DataW.trod_lt m _ _ _ hm
  obtain ⟨A2, n3, c4, rfl⟩ := okWide_slice Tryz.underlying30 (hval 1 30 v1 rfl rfl)
  obtain ⟨L5, hl_L5, hn_L5, hc_L5, hw_L5, hr_L5⟩ : ∃ l : List Int, l.length = n3 ∧ n3 ≤ c4 ∧ c4 ≤ maxLen ∧ (∀ x ∈ l, 0 ≤ x ∧ x ≤ 255) ∧ Reads W W.heap.size 1 A2 n3 (l.map (Value.int .u8)) := by
    obtain ⟨fuel, hf⟩ := h1
    exact open_bytes (k := .u8) (lo := 0) (hi := 255) Tryz.underlying30 Tryz.underlying5 (by kernel_rfl) (fun x hx => by simpa [Lit.wf, IntKind.min, IntKind.max, IntKind.signed, IntKind.bits] using hx) hf
  have k2 := h2
  have lt2 : ∀ x ∈ p2, x.block < W.heap.size := by obtain ⟨m, hm⟩ := k2; exact DataW.trod_lt m _ _ _ hm
  obtain ⟨A6, n7, c8, rfl⟩ := okWide_slice Tryz.underlying30 (hval 2 30 v2 rfl rfl)
  obtain ⟨L9, hl_L9, hn_L9, hc_L9, hw_L9, hr_L9⟩ : ∃ l : List Int, l.length = n7 ∧ n7 ≤ c8 ∧ c8 ≤ maxLen ∧ (∀ x ∈ l, 0 ≤ x ∧ x ≤ 255) ∧ Reads W W.heap.size 1 A6 n7 (l.map (Value.int .u8)) := by
    obtain ⟨fuel, hf⟩ := h2
    exact open_bytes (k := .u8) (lo := 0) (hi := 255) Tryz.underlying30 Tryz.underlying5 (by kernel_rfl) (fun x hx => by simpa [Lit.wf, IntKind.min, IntKind.max, IntKind.signed, IntKind.bits] using hx) hf
  have k3 := h3
  have lt3 : ∀ x ∈ p3, x.block < W.heap.size := by obtain ⟨m, hm⟩ := k3; exact DataW.trod_lt m _ _ _ hm
  obtain ⟨A10, n11, c12, rfl⟩ := okWide_slice Tryz.underlying67 (hval 3 67 v3 rfl rfl)
  obtain ⟨L13, hl_L13, hn_L13, hc_L13, hw_L13, hr_L13⟩ : ∃ l : List (Bool × Int × Int × Bool), l.length = n11 ∧ n11 ≤ c12 ∧ c12 ≤ maxLen ∧ (∀ x ∈ l, 0 ≤ x.2.1 ∧ x.2.1 ≤ 255 ∧ 0 ≤ x.2.2.1 ∧ x.2.2.1 ≤ 255) ∧ Reads W W.heap.size 4 A10 n11 (l.flatMap (fun x : Bool × Int × Int × Bool => [.bool x.1, .int .u8 x.2.1, .int .u8 x.2.2.1, .bool x.2.2.2])) := by
    obtain ⟨fuel, hf⟩ := h3
    refine open_structs (k := 4) (enc' := fun x : Bool × Int × Int × Bool => [.bool x.1, .int .u8 x.2.1, .int .u8 x.2.2.1, .bool x.2.2.2]) (Q := fun x => 0 ≤ x.2.1 ∧ x.2.1 ≤ 255 ∧ 0 ≤ x.2.2.1 ∧ x.2.2.1 ≤ 255) Tryz.underlying67 Tryz.underlying72 (by kernel_rfl) (by kernel_rfl) (by decide) rfl (fun x => rfl) hf ?_
    intro cs m hl hg
    obtain ⟨c14, c15, c16, c17, rfl⟩ := len4 hl
    obtain ⟨q_t18, y_t18, e_t18, t18⟩ := hg 0 _ rfl
    obtain rfl : c14 = q_t18 := by simpa using e_t18
    obtain ⟨a19, e_a19, _⟩ := DataW.trod_bool Tryz.underlying4 t18
    obtain rfl : c14 = _ := by simpa using e_a19
    obtain ⟨q_t20, y_t20, e_t20, t20⟩ := hg 1 _ rfl
    obtain rfl : c15 = q_t20 := by simpa using e_t20
    obtain ⟨a21, e_a21, _, w_a21⟩ := DataW.trod_int Tryz.underlying5 t20
    obtain rfl : c15 = _ := by simpa using e_a21
    have b_a21 : 0 ≤ a21 ∧ a21 ≤ 255 := by simpa [Lit.wf, IntKind.min, IntKind.max, IntKind.signed, IntKind.bits] using w_a21
    obtain ⟨q_t22, y_t22, e_t22, t22⟩ := hg 2 _ rfl
    obtain rfl : c16 = q_t22 := by simpa using e_t22
    obtain ⟨a23, e_a23, _, w_a23⟩ := DataW.trod_int Tryz.underlying5 t22
    obtain rfl : c16 = _ := by simpa using e_a23
    have b_a23 : 0 ≤ a23 ∧ a23 ≤ 255 := by simpa [Lit.wf, IntKind.min, IntKind.max, IntKind.signed, IntKind.bits] using w_a23
    obtain ⟨q_t24, y_t24, e_t24, t24⟩ := hg 3 _ rfl
    obtain rfl : c17 = q_t24 := by simpa using e_t24
    obtain ⟨a25, e_a25, _⟩ := DataW.trod_bool Tryz.underlying4 t24
    obtain rfl : c17 = _ := by simpa using e_a25
    exact ⟨(a19, a21, a23, a25), ⟨b_a21.1, b_a21.2, b_a23.1, b_a23.2⟩, rfl⟩
  clear hA0
  refine (law_agrees a1 A2 n3 c4 L5 A6 n7 c8 L9 A10 n11 c12 L13 W hl_L5 hn_L5 hc_L5 hw_L5 hr_L5 hl_L9 hn_L9 hc_L9 hw_L9 hr_L9 hl_L13 hn_L13 hc_L13 hw_L13 hr_L13 (tabW_row hL)).mono fun e W' ⟨he, hup⟩ => ?_
  have bel : Below W.heap.size W W' := hup
  subst he
  exact ⟨_, rfl, _, _, _, [], _, [], hW', trodAll_mk1 (shut_bool Tryz.underlying4 _), (trodAll_cons_mk (Below.trod laidOut (by kernel_rfl) (of_decide_eq_true (by kernel_rfl)) k0 bel lt0) (trodAll_cons_mk (Below.trod laidOut (by kernel_rfl) (of_decide_eq_true (by kernel_rfl)) k1 bel lt1) (trodAll_cons_mk (Below.trod laidOut (by kernel_rfl) (of_decide_eq_true (by kernel_rfl)) k2 bel lt2) (trodAll_cons_mk (Below.trod laidOut (by kernel_rfl) (of_decide_eq_true (by kernel_rfl)) k3 bel lt3) trodAll_mk0)))), rfl, bel.frame _, fun h => by cases h⟩


noncomputable def laidWorld (os : Os) : World :=
  { World.holding Tryz.prog os ⟨#[], #[], []⟩ with heap := (((((World.holding Tryz.prog os ⟨#[], #[], []⟩).heap.modify 3 fun
      | .cells _ t frozen => .cells #[.int .u8 128, .int .u8 191, .int .u8 160, .int .u8 191, .int .u8 128, .int .u8 159, .int .u8 144, .int .u8 191, .int .u8 128, .int .u8 143, .int .u8 0, .int .u8 0, .int .u8 0, .int .u8 0, .int .u8 0, .int .u8 0, .int .u8 0, .int .u8 0, .int .u8 0, .int .u8 0, .int .u8 0, .int .u8 0, .int .u8 0, .int .u8 0, .int .u8 0, .int .u8 0, .int .u8 0, .int .u8 0, .int .u8 0, .int .u8 0, .int .u8 0, .int .u8 0] t frozen
      | o => o).modify 0 fun
      | .cells _ t frozen => .cells #[.string { data := #[51, 50, 55, 48, 45, 68, 65, 84, 65] }, .string { data := #[83, 67, 83, 45, 68, 65, 84, 65] }, .string { data := #[82, 69, 83, 80, 79, 78, 83, 69] }, .string { data := #[66, 73, 78, 68, 45, 73, 77, 65, 71, 69] }, .string { data := #[85, 78, 66, 73, 78, 68] }, .string { data := #[78, 86, 84, 45, 68, 65, 84, 65] }, .string { data := #[82, 69, 81, 85, 69, 83, 84] }, .string { data := #[83, 83, 67, 80, 45, 76, 85, 45, 68, 65, 84, 65] }, .string { data := #[80, 82, 73, 78, 84, 45, 69, 79, 74] }] t frozen
      | o => o).modify 4 fun
      | .cells _ t frozen => .cells #[.string { data := #[78, 111, 116, 104, 105, 110, 103] }, .int .u8 3, .int .u8 3, .string { data := #[87, 114, 105, 116, 101] }, .int .u8 1, .int .u8 241, .string { data := #[69, 114, 97, 115, 101, 87, 114, 105, 116, 101] }, .int .u8 5, .int .u8 245, .string { data := #[69, 114, 97, 115, 101, 65, 108, 116, 101, 114, 110, 97, 116, 101] }, .int .u8 13, .int .u8 126, .string { data := #[69, 114, 97, 115, 101, 85, 110, 112, 114, 111, 116, 101, 99, 116, 101, 100] }, .int .u8 15, .int .u8 111, .string { data := #[82, 101, 97, 100, 66, 117, 102, 102, 101, 114] }, .int .u8 2, .int .u8 242, .string { data := #[82, 101, 97, 100, 77, 111, 100, 105, 102, 105, 101, 100] }, .int .u8 6, .int .u8 246, .string { data := #[82, 101, 97, 100, 65, 108, 108] }, .int .u8 14, .int .u8 110, .string { data := #[83, 116, 114, 117, 99, 116, 117, 114, 101, 100] }, .int .u8 17, .int .u8 243] t frozen
      | o => o).modify 2 fun
      | .cells _ t frozen => .cells (Go.Pinned.utf8FirstZ.map fun n : Nat => Value.int .u8 n).toArray t frozen
      | o => o) }
theorem laid_met (os : Os) : laidMet Tryz.prog Rows.topAgreesRow.laid ((laidWorld os).forCall (fun _ _ => 0) ⟨#[], #[.bool false, .slice none 0 0, .slice none 0 0, .slice none 0 0], []⟩).memory :=
  laidMet_of_run' 8 (by kernel_rfl) (by kernel_rfl)
theorem reads (os : Os) {H : Type} (enc : TypeId × Value → H) : ∃ places, DataW.whole enc Tryz.prog ((laidWorld os).forCall (fun _ _ => 0) ⟨#[], #[.bool false, .slice none 0 0, .slice none 0 0, .slice none 0 0], []⟩).memory Tryz.f5.params.toList Rows.topAgreesSpec.vars false #[.bool false, .slice none 0 0, .slice none 0 0, .slice none 0 0].toList 8 = some ([.lit (.bool false), .nil, .nil, .nil], [], places) :=
  ⟨[], by kernel_rfl⟩

set_option maxRecDepth 100000 in
theorem lifted (os : Os) (started : os.Started) (H : Type) (enc : TypeId × Value → H) (F : Stop.Interp) :
    ReturnsInHanded {} Tryz.checked os 5 .any ((OpenSpec.ofChange Rows.topAgreesSpec).preRow enc Tryz.prog Tryz.f5 Rows.topAgreesRow.domain false Rows.topAgreesRow.laid) (((OpenSpec.ofChange Rows.topAgreesSpec).at F).post enc Tryz.prog Tryz.f5 false true false false) := by
  obtain ⟨places, hx⟩ := reads os enc
  refine returnsInHanded_of_row (C := Tryz.checked) (s := OpenSpec.ofChange Rows.topAgreesSpec) own started (by kernel_rfl) Tryz.func5
    (witness_row_at (enc := enc) (C := Tryz.checked) false (laidWorld os) #[.bool false, .slice none 0 0, .slice none 0 0, .slice none 0 0] rfl (by kernel_rfl) (by kernel_rfl) (by kernel_rfl)
      (OpenSpec.preRow_of_cond 8 hx (by kernel_rfl) (fun k hk => by cases hk) (by kernel_rfl) (laid_met os))) ?_
  intro W base args ds gs before hval hW _ _ _ hL _ _
  exact contract H enc W base args ds gs before hval hW hL

theorem said : Rows.TopAgreesSaid :=
  OpenClaim.holds_of_cond 5 Tryz.f5 rfl rfl rfl rfl rfl rfl rfl ⟨rfl, rfl, rfl, rfl, rfl⟩ rfl rfl rfl rfl rfl (by kernel_rfl) Tryz.func5 closed
    (of_decide_eq_true (by kernel_rfl)) (by unfold Func.isWrapper; first | (rw [if_pos (by decide +kernel)]; kernel_rfl) | (rw [if_neg (by decide +kernel)]; exact ⟨rfl, rfl⟩))
    (fun os started H enc _ F => by rw [OpenClaim.pre_eq_preRow]; exact lifted os started H enc F)

theorem plain (f : FuncId) (fn : Func) (hf : Tryz.pinned.checked.prog.funcNamed Tryz.f5.name = some f) (hfn : Tryz.pinned.checked.prog.funcs[f]? = some fn) :
    false = Tryz.pinned.checked.prog.looks [] ∧ ∀ (j : Nat) t, fn.params[j]? = some t → Tryz.pinned.checked.prog.wantsStandIn t = false := by
  obtain rfl : f = 5 := Option.some.inj ((show Tryz.prog.funcNamed Tryz.f5.name = some 5 by kernel_rfl).symm.trans hf) |>.symm
  obtain rfl : fn = Tryz.f5 := (Option.some.inj (Tryz.func5.symm.trans hfn)).symm
  refine ⟨by kernel_rfl, fun j t ht => ?_⟩
  rw [Tryz.params5] at ht
  have hm := Array.mem_of_getElem? ht
  obtain rfl | rfl | rfl | rfl : t = 4 ∨ t = 30 ∨ t = 30 ∨ t = 67 := by simpa using hm
  · exact (show Tryz.prog.wantsStandIn 4 = false by kernel_rfl)
  · exact (show Tryz.prog.wantsStandIn 30 = false by kernel_rfl)
  · exact (show Tryz.prog.wantsStandIn 30 = false by kernel_rfl)
  · exact (show Tryz.prog.wantsStandIn 67 = false by kernel_rfl)

theorem proved : Rows.TopAgreesCardSaid :=
  Claim7.holds_tied_plain_at .later [] _ _ _ _ said (fun _ h => by cases h) (by kernel_rfl) (fun _ h => by cases h) topAgrees_row_tie rfl ⟨rfl, rfl⟩ (by kernel_rfl) rfl plain f_goes
#print axioms proved
end Go.Proofs.YtamfjgioajmnpaaGreatDoor.topAgrees
