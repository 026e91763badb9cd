/-
  What slices.AppendSeq and Collect over ints make of an iterator. No condition.
-/
import Derived.Test.YthdoighlfoinaaaDoorIter
import Derived.Test.YthdoighlfoinaaaDoorBytes
namespace Go.Proofs.YthdoighlfoinaaaDoor
open Go.RowKit
set_option linter.unusedVariables false
set_option linter.unusedSimpArgs false
attribute [local go_sem] Oper.semAt_some

def ns (l : List Int) : List Value := l.map (Value.int .i64)
theorem ns_len (l : List Int) : (ns l).length = l.length := by simp [ns]
theorem ns_snoc (l : List Int) (x : Int) : ns (l ++ [x]) = ns l ++ [.int .i64 x] := by simp [ns]
theorem one_i64 (l : List Int) : ∀ u ∈ ns l, u.oneCell' = true := by
  intro u hu
  simp only [ns, List.mem_map] at hu
  obtain ⟨x, _, rfl⟩ := hu
  rfl
theorem info_i64 : (Tryd.prog.info? 3).map (fun i => (i.zero, i.size, i.bytes)) = some (some (.int .i64 0), 1, 8) := by kernel_rfl
theorem Calm.keep {B : Nat} {T : Nat → Prop} {w x y : World} (h : Calm B T x y) (hk : Keep T w x) (hw : w.heap.size ≤ B) : Keep T w y :=
  ⟨h.os.trans hk.os, h.tape.trans hk.tape, h.output.trans hk.output, Nat.le_trans hk.size h.size, fun k hlt ht => by
    have h1 := hk.block k hlt ht
    have hlt' : k < x.heap.size := by have := hk.size; omega
    have ho : x.heap[k]? = some x.heap[k] := Array.getElem?_eq_getElem hlt'
    rw [← h1, ho]
    exact h.same k _ ho ht (.inr (by omega))⟩
/-- what AppendSeq's box holds once these have come -/
def SeqI (w : World) (T : Nat → Prop) (e : TypeId) (enc : Int → Value) (pre : List Int) (W : World) : Prop :=
  ∃ A c, W.cell? ⟨w.heap.size, 0, none⟩ = some (.slice A pre.length c) ∧ W.frozen? ⟨w.heap.size, 0, none⟩ = false ∧ W.ownsRow (w.heap.size + 1) e 1 (.slice A pre.length c) pre.length (pre.map enc) ∧ pre.length ≤ c ∧ c ≤ maxLen ∧ Keep T w W
theorem seqI_still {w : World} {T : Nat → Prop} {e : TypeId} {enc : Int → Value} {B : Nat} (hT : ∀ k, T k → k < w.heap.size) (hB : w.heap.size ≤ B) : Still (Calm B T) (SeqI w T e enc) := by
  rintro pre A A' ⟨a, c, h1, h2, h3, h4, h5, h6⟩ hc
  exact ⟨a, c, hc.cell h1 (fun ht => by have := hT _ ht; omega), (hc.frozen h1 (fun ht => by have := hT _ ht; omega)).trans h2, hc.own h3 (fun k ht => by have := hT k ht; omega), h4, h5, hc.keep h6 hB⟩

end Go.Proofs.YthdoighlfoinaaaDoor
