/-
  A package-level array of structs of a string and two bytes that reads as a listed datum holds these rows, cell for cell. No condition.
-/
import Derived.Test.YtfambgigdhkiaaaDoorOpen
import Derived.Lib.LaidTab
import Derived.Deep.DeepHandedRow
import Derived.Deep.Strs
namespace Go.Proofs.YtfambgigdhkiaaaDoor
open Go.ChangeShapes Go.WideShapes Go.ChangeAt Go.RowKit

section
variable {H : Type} {enc : TypeId × Value → H} {P : Program} {w : World} {base : Nat} {sp : Nat → Bool} {held : Bool}
def rowDatum {H : Type} (r : List UInt8 × Int × Int) : DataW H := .agg [.lit (.string r.1), .lit (.int .u8 r.2.1), .lit (.int .u8 r.2.2)]
theorem cells_of_rows {fuel : Nat} {t e : TypeId} {n : Nat} {f0 f1 f2 : Field} {cs : List Value} {ls : List (List UInt8 × Int × Int)} {p : List MemPlace}
    (ht : P.underlying t = some (.array n e)) (he : P.underlying e = some (.struct #[f0, f1, f2])) (hce : P.cellsOf e = 3)
    (h0 : P.underlying f0.type = some .string) (h1 : P.underlying f1.type = some (.int .u8)) (h2 : P.underlying f2.type = some (.int .u8))
    (o0 : f0.offset = 0) (o1 : f1.offset = 1) (o2 : f2.offset = 2) (c0 : P.cellsOf f0.type = 1) (c1 : P.cellsOf f1.type = 1) (c2 : P.cellsOf f2.type = 1)
    (h : DataW.trod enc P w base sp held fuel t cs = some (.agg (ls.map rowDatum), p)) (i : Nat) (r : List UInt8 × Int × Int) (hi : ls[i]? = some r) :
    cs[3 * i]? = some (.string ⟨r.1.toArray⟩) ∧ cs[3 * i + 1]? = some (.int .u8 r.2.1) ∧ cs[3 * i + 2]? = some (.int .u8 r.2.2) := by
  obtain ⟨xs, m, _, hx, _, hl, hat⟩ := DataW.trod_array ht h
  have hxs : xs.map (·.1) = ls.map rowDatum := by
    have := congrArg Prod.fst hx
    simpa using this.symm
  have hlen : ls.length = n := by
    have := congrArg List.length hxs
    simp at this
    omega
  have hin : i < n := by
    have := (List.getElem?_eq_some_iff.1 hi).1
    omega
  have h3 := hat i hin
  rw [hce] at h3
  have h4 : (xs.map (·.1))[i]? = some (rowDatum r) := by rw [hxs, List.getElem?_map, hi]; rfl
  rw [List.getElem?_map] at h4
  obtain ⟨y, hy, hy1⟩ := Option.map_eq_some_iff.1 h4
  rw [hy] at h3
  obtain ⟨y0, y1, y2, m', rfl, _, g0, g1, g2⟩ := Go.Deep.trod_struct3 he h3
  rw [o0, c0] at g0
  rw [o1, c1] at g1
  rw [o2, c2] at g2
  simp only [rowDatum, DataW.agg.injEq, List.cons.injEq, and_true] at hy1
  obtain ⟨e0, e1, e2⟩ := hy1
  obtain ⟨s, k0, rfl, _⟩ := DataW.trod_string h0 g0
  obtain ⟨z1, k1, rfl, _⟩ := DataW.trod_int h1 g1
  obtain ⟨z2, k2, rfl, _⟩ := DataW.trod_int h2 g2
  have e0' : s.data.toList = r.1 := by simpa using e0
  have e1' : z1 = r.2.1 := by simpa using e1
  have e2' : z2 = r.2.2 := by simpa using e2
  have q0 := congrArg (·[0]?) k0
  have q1 := congrArg (·[0]?) k1
  have q2 := congrArg (·[0]?) k2
  simp [List.getElem?_drop] at q0 q1 q2
  refine ⟨?_, ?_, ?_⟩
  · rw [← e0', Nat.mul_comm, q0]
  · rw [← e1', Nat.mul_comm, q1]
  · rw [← e2', Nat.mul_comm, q2]
theorem laid_rows {W : World} {name : String} {ls : List (List UInt8 × Int × Int)} {rest : List (String × DataW Unit)} {g : Nat} {t e : TypeId} {n : Nat} {f0 f1 f2 : Field}
    (hg : P.globalNamed name = some g) (hty : (P.globals[g]?).map (·.type) = some t) (ht : P.underlying t = some (.array n e)) (he : P.underlying e = some (.struct #[f0, f1, f2])) (hce : P.cellsOf e = 3)
    (h0 : P.underlying f0.type = some .string) (h1 : P.underlying f1.type = some (.int .u8)) (h2 : P.underlying f2.type = some (.int .u8))
    (o0 : f0.offset = 0) (o1 : f1.offset = 1) (o2 : f2.offset = 2) (c0 : P.cellsOf f0.type = 1) (c1 : P.cellsOf f1.type = 1) (c2 : P.cellsOf f2.type = 1)
    (h : laidMet P ((name, .agg (ls.map rowDatum)) :: rest) W) (i : Nat) (r : List UInt8 × Int × Int) (hi : ls[i]? = some r) :
    W.cell? ⟨g, 3 * i, none⟩ = some (.string ⟨r.1.toArray⟩) ∧ W.cell? ⟨g, 3 * i + 1, none⟩ = some (.int .u8 r.2.1) ∧ W.cell? ⟨g, 3 * i + 2, none⟩ = some (.int .u8 r.2.2) := by
  obtain ⟨ps, ⟨g', t', cs, fuel, p, q, hg', ht', hvar, hd, _, _⟩, _⟩ := h
  obtain rfl := Option.some.inj (hg.symm.trans hg')
  obtain rfl := Option.some.inj (hty.symm.trans ht')
  obtain ⟨a0, a1, a2⟩ := cells_of_rows ht he hce h0 h1 h2 o0 o1 o2 c0 c1 c2 hd i r hi
  refine ⟨?_, ?_, ?_⟩
  · rw [World.var?_cell hg hvar]; simpa using a0
  · rw [World.var?_cell hg hvar]; simpa using a1
  · rw [World.var?_cell hg hvar]; simpa using a2
end
end Go.Proofs.YtfambgigdhkiaaaDoor
