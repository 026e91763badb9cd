/-
  New bytes that a call hands back. No condition.
-/
import Derived.Test.YtahlilogobfhcaaBytes
namespace Go.Proofs.Ytahlilogobfhcaa
open Go.RowKit
set_option linter.unusedVariables false

def Made (w w' : World) (A : Option Addr) (c : Nat) (l : List Int) : Prop := w'.ownsRow w.heap.size 5 1 (.slice A l.length c) l.length (bs l) ∧ l.length ≤ c ∧ c ≤ maxLen
theorem made_lit {w W : World} (cs : Array Value) (l : List Int) (h : cs = (bs l).toArray) (hw : w.heap.size ≤ W.heap.size) (hl : l.length ≤ 65536) (g : Nat) (hg : g = W.heap.size) :
    Made w (W.alloc (.cells cs 5)) (some ⟨g, 0, none⟩) l.length l := by
  subst h; subst hg
  refine ⟨?_, Nat.le_refl _, by simp [maxLen]; omega⟩
  have := World.ownsRow_lit (base := w.heap.size) (size := 1) (e := 5) W (bs l).toArray l.length hw (by simp [maxLen]; omega) (by simp [bs])
  simpa using this
theorem Made.reads {w w' : World} {A : Option Addr} {c : Nat} {l : List Int} (h : Made w w' A c l) : Reads w' w'.heap.size 1 A l.length (bs l) := Reads.of_own h.1
theorem same_res {l : List Int} : decide (l = l) = true := by simp
theorem two {w : World} {B n b off : Nat} {a0 a1 : Int} {l : List Int} (hr : Reads w B 1 (some ⟨b, off, none⟩) n (bs (a0 :: a1 :: l))) :
    b < B ∧ w.cell? ⟨b, off, none⟩ = some (.int .u8 a0) ∧ w.cell? ⟨b, off + 1, none⟩ = some (.int .u8 a1) := by
  have h1 := hr.1
  simp [bs] at h1
  obtain ⟨b', off', e, hb, hc⟩ := hr.2 (by omega)
  injection e with e
  injection e with e1 e2 _
  subst e1; subst e2
  exact ⟨hb, hc 0 _ rfl, hc 1 _ rfl⟩
end Go.Proofs.Ytahlilogobfhcaa
