/-
  How a text is read, sign by sign: plain law. No condition.
-/
import Derived.Test.YthdoighlfoinaaaDoorText2
import Derived.Lib.TrimUEq
import Derived.Lib.MapLaws
import Derived.Shelf.Unicode.DecodeSlow
namespace Go.Proofs.YthdoighlfoinaaaDoor
open Go.RowKit Go.Maps
set_option linter.unusedVariables false
set_option linter.unusedSimpArgs false

theorem ext_drop (s : ByteArray) (pos : Nat) : (s.extract pos s.size).data.toList = s.data.toList.drop pos := by
  rw [ByteArray.data_extract, Array.toList_extract, List.extract_eq_take_drop, List.take_of_length_le]
  rw [List.length_drop, Array.length_toList]
  exact Nat.le_refl _
theorem dec_ext (s : ByteArray) (pos : Nat) (h : pos < s.size) : Lib.decodeGo (s.extract pos s.size) = Utf8.decode s pos := by
  have hz : ¬ (s.extract pos s.size).size = 0 := by rw [ByteArray.size_extract]; omega
  unfold Lib.decodeGo
  rw [if_neg hz, ← Lib.decodeL_drop s pos, ← ext_drop]
  rfl
theorem dec_le (s : ByteArray) (pos : Nat) (h : pos < s.size) : pos + (Utf8.decode s pos).2 ≤ s.size := by
  have hl : s.data.toList.length = s.size := by simp
  have := Lib.decodeL_le (s.data.toList.drop pos) (by intro e; have := congrArg List.length e; rw [List.length_drop, hl] at this; simp at this; omega)
  rw [Lib.decodeL_drop, List.length_drop, hl] at this
  omega
theorem dec_N (s : ByteArray) (pos : Nat) : Utf8.decode s pos = Lib.decodeN (s.data.toList.drop pos).length ((s.data.toList.drop pos).getD 0 0).toNat ((s.data.toList.drop pos).getD 1 0).toNat ((s.data.toList.drop pos).getD 2 0).toNat ((s.data.toList.drop pos).getD 3 0).toNat := by
  rw [← Lib.decodeL_drop s pos, Lib.decodeL_N]
theorem pre_dec (L : List UInt8) (h : Lib.hasPrefix L [239, 191, 189] = true) : Lib.decodeN L.length (L.getD 0 0).toNat (L.getD 1 0).toNat (L.getD 2 0).toNat (L.getD 3 0).toNat = (65533, 3) := by
  unfold Lib.hasPrefix at h
  obtain ⟨r, rfl⟩ := List.isPrefixOf_iff_prefix.1 h
  simp [Lib.decodeN]
theorem byte_eq (x : UInt8) (n : Nat) (h : x.toNat = n) : x = UInt8.ofNat n := by
  rw [← h]; simp
theorem dec_bad (L : List UInt8) (hr : (Lib.decodeN L.length (L.getD 0 0).toNat (L.getD 1 0).toNat (L.getD 2 0).toNat (L.getD 3 0).toNat).1 = 65533) (hp : Lib.hasPrefix L [239, 191, 189] = false) :
    (Lib.decodeN L.length (L.getD 0 0).toNat (L.getD 1 0).toNat (L.getD 2 0).toNat (L.getD 3 0).toNat).2 = 1 := by
  have b0 := (L.getD 0 0).toNat_lt
  have b1 := (L.getD 1 0).toNat_lt
  have b2 := (L.getD 2 0).toNat_lt
  have key : ¬ (2 < L.length ∧ (L.getD 0 0).toNat = 239 ∧ (L.getD 1 0).toNat = 191 ∧ (L.getD 2 0).toNat = 189) := by
    rintro ⟨h0, h1, h2, h3⟩
    match L, h0 with
    | a :: b :: c :: r, _ =>
      simp only [List.getD_cons_zero, List.getD_cons_succ] at h1 h2 h3
      have e1 := byte_eq a _ h1
      have e2 := byte_eq b _ h2
      have e3 := byte_eq c _ h3
      subst e1; subst e2; subst e3
      simp [Lib.hasPrefix, List.isPrefixOf] at hp
  generalize (L.getD 0 0).toNat = x0 at *
  generalize (L.getD 1 0).toNat = x1 at *
  generalize (L.getD 2 0).toNat = x2 at *
  generalize (L.getD 3 0).toNat = x3 at *
  generalize L.length = n at *
  unfold Lib.decodeN at hr ⊢
  repeat' split at hr
  all_goals (simp only at hr)
  all_goals first
    | rfl
    | (exfalso; omega)
    | (simp_all; done)
    | (split <;> simp_all <;> omega)
/-- a broken form has one byte -/
theorem bad_iff (s : ByteArray) (pos : Nat) (hr : (Utf8.decode s pos).1 = 65533) : (Utf8.decode s pos).2 = 1 ↔ prefixed s pos = false := by
  have hpd : prefixed s pos = Lib.hasPrefix (s.data.toList.drop pos) [239, 191, 189] := by unfold prefixed; rw [ext_drop]
  rw [hpd, dec_N]
  rw [dec_N] at hr
  constructor
  · intro h
    cases hq : Lib.hasPrefix (s.data.toList.drop pos) [239, 191, 189]
    · rfl
    · rw [pre_dec _ hq] at h
      simp at h
  · exact fun h => dec_bad _ hr h
end Go.Proofs.YthdoighlfoinaaaDoor
