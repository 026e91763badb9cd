/-
  A package-level array of strings that reads as a listed datum holds these strings, cell for cell. No condition.
-/
import Derived.Test.YtfambgigdhkiaaaDoorOpen
import Derived.Lib.LaidTab
import Derived.Deep.DeepHandedRow
namespace Go.Proofs.YtfambgigdhkiaaaDoor
open Go.ChangeShapes Go.WideShapes Go.ChangeAt Go.RowKit

section
variable {H : Type} {enc : TypeId × Value → H} {P : Program} {w : World} {base : Nat} {sp : Nat → Bool} {held : Bool}
theorem cells_of_strs {fuel : Nat} {t e : TypeId} {n : Nat} {cs : List Value} {ls : List (List UInt8)} {p : List MemPlace}
    (ht : P.underlying t = some (.array n e)) (he : P.underlying e = some .string) (hce : P.cellsOf e = 1)
    (h : DataW.trod enc P w base sp held fuel t cs = some (.agg (ls.map fun l => .lit (.string l)), p)) (i : Nat) (l : List UInt8) (hi : ls[i]? = some l) : cs[i]? = some (.string ⟨l.toArray⟩) := by
  obtain ⟨xs, m, _, hx, _, hl, hat⟩ := DataW.trod_array ht h
  have hxs : xs.map (·.1) = ls.map fun l => (DataW.lit (.string l) : DataW H) := by
    have := congrArg Prod.fst hx
    simpa using this.symm
  have hlen : ls.length = n := by
    have := congrArg List.length hxs
    simp at this
    omega
  have hin : i < n := by
    have := (List.getElem?_eq_some_iff.1 hi).1
    omega
  have h1 := hat i hin
  rw [hce, Nat.mul_one] at h1
  have h2 : (xs.map (·.1))[i]? = some (DataW.lit (.string l) : DataW H) := by rw [hxs, List.getElem?_map, hi]; rfl
  rw [List.getElem?_map] at h2
  obtain ⟨y, hy, hy1⟩ := Option.map_eq_some_iff.1 h2
  rw [hy] at h1
  obtain ⟨s, hc, rfl, _⟩ := DataW.trod_string he h1
  have h3 : cs[i]? = some (.string s) := by
    have := congrArg (·[0]?) hc
    simpa [List.getElem?_take, List.getElem?_drop] using this
  have h4 : s.data.toList = l := by simpa using hy1
  rw [h3, ← h4]
theorem laid_strs {W : World} {name : String} {ls : List (List UInt8)} {rest : List (String × DataW Unit)} {g : Nat} {t e : TypeId} {n : Nat}
    (hg : P.globalNamed name = some g) (hty : (P.globals[g]?).map (·.type) = some t) (ht : P.underlying t = some (.array n e)) (he : P.underlying e = some .string) (hce : P.cellsOf e = 1)
    (h : laidMet P ((name, .agg (ls.map fun l => .lit (.string l))) :: rest) W) (i : Nat) (l : List UInt8) (hi : ls[i]? = some l) : W.cell? ⟨g, i, none⟩ = some (.string ⟨l.toArray⟩) := by
  obtain ⟨ps, ⟨g', t', cs, fuel, p, q, hg', ht', hvar, hd, _, _⟩, _⟩ := h
  obtain rfl := Option.some.inj (hg.symm.trans hg')
  obtain rfl := Option.some.inj (hty.symm.trans ht')
  have := cells_of_strs ht he hce hd i l hi
  have h5 := World.var?_cell hg hvar i
  rw [h5]
  simpa using this
end
end Go.Proofs.YtfambgigdhkiaaaDoor
