/-
  A text of codes is read again: plain law, no program in sight. No condition.
-/
import Derived.Test.YthdoighlfoinaaaText2
namespace Go.Proofs.Ythdoighlfoinaaa
open Go.RowKit Go.Maps
set_option linter.unusedVariables false
set_option linter.unusedSimpArgs false

def lowB (l : List Int) : Bool := l.all (fun x => decide (x < 55296))
theorem low_all : lowB (signsL 37) = true ∧ lowB (signsL 273) = true ∧ lowB (signsL 297) = true ∧ lowB (signsL 500) = true ∧ lowB (signsL 1047) = true ∧ lowB (signsL 1140) = true := by decide +kernel
theorem sign_low {k : Int} (h : isPage k = true) {c : Nat} (hc : c < 256) : signN k c < 55296 := by
  have : lowB (signsL k) = true := by
    obtain ⟨h1, h2, h3, h4, h5, h6⟩ := low_all
    rcases page_cases h with rfl | rfl | rfl | rfl | rfl | rfl
    · exact h1
    · exact h2
    · exact h3
    · exact h4
    · exact h5
    · exact h6
  have := List.all_eq_true.1 this _ (sign_mem hc)
  simpa using this
theorem get_at (L : List UInt8) (i : Nat) (h : i < L.length) : (⟨L.toArray⟩ : ByteArray).get! i = L[i] := by
  show (L.toArray)[i]! = L[i]
  simp [h]
theorem get_mid (a b c : List UInt8) (j : Nat) (h : j < b.length) : (⟨(a ++ b ++ c).toArray⟩ : ByteArray).get! (a.length + j) = b[j] := by
  rw [get_at _ _ (by simp; omega)]
  rw [List.getElem_append_left (by simp; omega), List.getElem_append_right (by omega)]
  simp
theorem byte_nat (x : Int) (h0 : 0 ≤ x) (h1 : x < 256) : (x.toNat.toUInt8).toNat = x.toNat := by
  have : x.toNat < 256 := by omega
  simp [Nat.toUInt8, UInt8.toNat_ofNat']
  omega
theorem decode_enc (a c : List UInt8) (r : Int) (h0 : 0 ≤ r) (h1 : r < 55296) : Utf8.decode ⟨(a ++ Lib.encodeRune r ++ c).toArray⟩ a.length = (r.toNat, (Lib.encodeRune r).length) := by
  have hsz : (⟨(a ++ Lib.encodeRune r ++ c).toArray⟩ : ByteArray).size = a.length + (Lib.encodeRune r).length + c.length := by
    show (a ++ Lib.encodeRune r ++ c).toArray.size = _
    simp [Nat.add_assoc]
  obtain ⟨m, rfl⟩ : ∃ m : Nat, r = (m : Int) := ⟨r.toNat, by omega⟩
  rcases Nat.lt_or_ge m 128 with hm | hm
  · have e : Lib.encodeRune (m : Int) = [(m : Int).toNat.toUInt8] := by unfold Lib.encodeRune; rw [Lib.encodeRuneZ_one (by omega) (by omega)]; rfl
    rw [e] at hsz ⊢
    have g0 := get_mid a [(m : Int).toNat.toUInt8] c 0 (by simp)
    have b0 := byte_nat (m : Int) (by omega) (by omega)
    simp only [List.getElem_cons_zero] at g0
    simp only [Utf8.decode, g0, b0]
    rw [if_pos (by omega)]
    simp
  · rcases Nat.lt_or_ge m 2048 with hm2 | hm2
    · have e : Lib.encodeRune (m : Int) = [(192 + (m : Int) / 64).toNat.toUInt8, (128 + (m : Int) % 64).toNat.toUInt8] := by unfold Lib.encodeRune; rw [Lib.encodeRuneZ_two (by omega) (by omega)]; rfl
      have b0 := byte_nat (192 + (m : Int) / 64) (by omega) (by omega)
      have b1 := byte_nat (128 + (m : Int) % 64) (by omega) (by omega)
      rw [e] at hsz ⊢
      have g0 := get_mid a [(192 + (m : Int) / 64).toNat.toUInt8, (128 + (m : Int) % 64).toNat.toUInt8] c 0 (by simp)
      have g1 := get_mid a [(192 + (m : Int) / 64).toNat.toUInt8, (128 + (m : Int) % 64).toNat.toUInt8] c 1 (by simp)
      simp only [List.getElem_cons_zero, List.getElem_cons_succ] at g0 g1
      have hs1 : a.length + 1 < (⟨(a ++ [(192 + (m : Int) / 64).toNat.toUInt8, (128 + (m : Int) % 64).toNat.toUInt8] ++ c).toArray⟩ : ByteArray).size := by rw [hsz]; simp; omega
      have n0 : (192 + (m : Int) / 64).toNat = 192 + m / 64 := by omega
      have n1 : (128 + (m : Int) % 64).toNat = 128 + m % 64 := by omega
      simp only [Utf8.decode, g0, g1, b0, b1]
      rw [n0, n1, if_neg (by omega), if_pos (by rw [n0, n1] at hs1; simp only [hs1, decide_true, Bool.true_and, Bool.and_eq_true, beq_iff_eq]; omega), if_pos (by omega)]
      simp; omega
    · have e : Lib.encodeRune (m : Int) = [(224 + (m : Int) / 4096).toNat.toUInt8, (128 + (m : Int) / 64 % 64).toNat.toUInt8, (128 + (m : Int) % 64).toNat.toUInt8] := by unfold Lib.encodeRune; rw [Lib.encodeRuneZ_three (by omega)]; rfl
      have b0 := byte_nat (224 + (m : Int) / 4096) (by omega) (by omega)
      have b1 := byte_nat (128 + (m : Int) / 64 % 64) (by omega) (by omega)
      have b2 := byte_nat (128 + (m : Int) % 64) (by omega) (by omega)
      rw [e] at hsz ⊢
      have g0 := get_mid a [(224 + (m : Int) / 4096).toNat.toUInt8, (128 + (m : Int) / 64 % 64).toNat.toUInt8, (128 + (m : Int) % 64).toNat.toUInt8] c 0 (by simp)
      have g1 := get_mid a [(224 + (m : Int) / 4096).toNat.toUInt8, (128 + (m : Int) / 64 % 64).toNat.toUInt8, (128 + (m : Int) % 64).toNat.toUInt8] c 1 (by simp)
      have g2 := get_mid a [(224 + (m : Int) / 4096).toNat.toUInt8, (128 + (m : Int) / 64 % 64).toNat.toUInt8, (128 + (m : Int) % 64).toNat.toUInt8] c 2 (by simp)
      simp only [List.getElem_cons_zero, List.getElem_cons_succ] at g0 g1 g2
      have n0 : (224 + (m : Int) / 4096).toNat = 224 + m / 4096 := by omega
      have n1 : (128 + (m : Int) / 64 % 64).toNat = 128 + m / 64 % 64 := by omega
      have n2 : (128 + (m : Int) % 64).toNat = 128 + m % 64 := by omega
      rw [n0] at b0 g0 hsz ⊢
      rw [n1] at b1 g0 g1 hsz ⊢
      rw [n2] at b2 g0 g1 g2 hsz ⊢
      rw [n0] at g1 g2
      rw [n1] at g2
      have hs1 : a.length + 1 < (⟨(a ++ [(224 + m / 4096).toUInt8, (128 + m / 64 % 64).toUInt8, (128 + m % 64).toUInt8] ++ c).toArray⟩ : ByteArray).size := by rw [hsz]; simp; omega
      have hs2 : a.length + 2 < (⟨(a ++ [(224 + m / 4096).toUInt8, (128 + m / 64 % 64).toUInt8, (128 + m % 64).toUInt8] ++ c).toArray⟩ : ByteArray).size := by rw [hsz]; simp; omega
      simp only [Utf8.decode, g0, g1, g2, b0, b1, b2]
      rw [if_neg (by omega), if_neg (by simp; omega), if_pos (by simp only [hs1, hs2, decide_true, Bool.true_and, Bool.and_eq_true, beq_iff_eq]; omega), if_pos (by simp [Utf8.valid]; omega)]
      simp; omega
theorem codeV_of {k : Int} (hk : isPage k = true) {c : Nat} (hc : c < 256) : (codeN k (signN k c)).isSome = true ∧ codeV k (signN k c) = (c : Int) := by
  unfold codeV
  rw [code_of hk hc]
  exact ⟨rfl, rfl⟩
theorem encode_pos (r : Int) : 1 ≤ (Lib.encodeRune r).length := by rw [← Lib.runeCells_length]; exact (Lib.runeCells_le r).1
/-- THE LAW: a text of codes is read as these codes -/
theorem readT_txt {k : Int} (hk : isPage k = true) : ∀ (l : List Int) (a : List UInt8) (acc : List Int) (f : Nat), (∀ x ∈ l, 0 ≤ x ∧ x ≤ 255) → (txt k l).length ≤ f → readT k ⟨(a ++ txt k l).toArray⟩ f a.length acc = (acc ++ l, 0)
  | [], a, acc, f, _, _ => by
    rw [readT_end _ _ _ _ _ (by show ¬ a.length < (a ++ txt k []).toArray.size; simp [txt])]
    simp
  | x :: l, a, acc, f, hl, hf => by
    obtain ⟨hx0, hx1⟩ := hl x (by simp)
    obtain ⟨c, rfl⟩ : ∃ c : Nat, x = (c : Int) := ⟨x.toNat, by omega⟩
    have hc : c < 256 := by omega
    obtain ⟨hs0, _⟩ := sign_bd hk hc
    have hs1 := sign_low hk hc
    obtain ⟨h1, h2⟩ := codeV_of hk hc
    have ht : txt k ((c : Int) :: l) = Lib.encodeRune (signN k c) ++ txt k l := rfl
    have hp := encode_pos (signN k c)
    rw [ht] at hf ⊢
    rw [List.length_append] at hf
    obtain ⟨f, rfl⟩ : ∃ f', f = f' + 1 := ⟨f - 1, by omega⟩
    have hd := decode_enc a (txt k l) (signN k c) hs0 hs1
    rw [List.append_assoc] at hd
    have hcast : ((signN k c).toNat : Int) = signN k c := by omega
    rw [readT, if_pos (by show a.length < (a ++ (Lib.encodeRune (signN k c) ++ txt k l)).toArray.size; simp; omega), hd]
    simp only
    rw [if_neg (by omega), hcast, if_pos h1, h2]
    have ih := readT_txt hk l (a ++ Lib.encodeRune (signN k c)) (acc ++ [(c : Int)]) f (fun y hy => hl y (by simp [hy])) (by omega)
    rw [List.append_assoc, List.length_append] at ih
    rw [ih, List.append_assoc]; rfl
theorem encode_is (r : Int) (h0 : 0 ≤ r) (h1 : r < 55296) : Utf8.encode r = ⟨(Lib.encodeRune r).toArray⟩ := by
  obtain ⟨m, rfl⟩ : ∃ m : Nat, r = (m : Int) := ⟨r.toNat, by omega⟩
  have v : Utf8.valid (m : Int) = true := by simp [Utf8.valid]; omega
  unfold Lib.encodeRune
  rcases Nat.lt_or_ge m 128 with hm | hm
  · rw [Lib.encodeRuneZ_one (by omega) (by omega)]
    simp [Utf8.encode, v, hm, Nat.toUInt8]
  · rcases Nat.lt_or_ge m 2048 with hm2 | hm2
    · rw [Lib.encodeRuneZ_two (by omega) (by omega)]
      have n0 : (192 + (m : Int) / 64).toNat = 192 + m / 64 := by omega
      have n1 : (128 + (m : Int) % 64).toNat = 128 + m % 64 := by omega
      have c1 : ¬ m < 128 := by omega
      simp [Utf8.encode, v, c1, hm2, Nat.toUInt8, n0, n1]
    · rw [Lib.encodeRuneZ_three (by omega)]
      have n0 : (224 + (m : Int) / 4096).toNat = 224 + m / 4096 := by omega
      have n1 : (128 + (m : Int) / 64 % 64).toNat = 128 + m / 64 % 64 := by omega
      have n2 : (128 + (m : Int) % 64).toNat = 128 + m % 64 := by omega
      have c1 : ¬ m < 128 := by omega
      have c2 : ¬ m < 2048 := by omega
      have c3 : m < 65536 := by omega
      simp [Utf8.encode, v, c1, c2, c3, Nat.toUInt8, n0, n1, n2]
theorem str_append (a : List UInt8) (r : Int) (h0 : 0 ≤ r) (h1 : r < 55296) : (⟨a.toArray⟩ : ByteArray) ++ Utf8.encode r = ⟨(a ++ Lib.encodeRune r).toArray⟩ := by
  rw [encode_is r h0 h1]
  apply ByteArray.ext
  simp
end Go.Proofs.Ythdoighlfoinaaa
