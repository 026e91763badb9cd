/-
  The walk of PageTexts: whatever the page and the codes, it returns true. No condition but where the codes lie.
-/
import Derived.Test.YthdoighlfoinaaaText3
import Derived.Test.YthdoighlfoinaaaRSign
import Derived.Laws.Runes
namespace Go.Proofs.Ythdoighlfoinaaa
open Go.RowKit Go.Maps
set_option linter.unusedVariables false
set_option linter.unusedSimpArgs false

theorem txt_read {k : Int} (hk : isPage k = true) (l : List Int) (hl : ∀ x ∈ l, 0 ≤ x ∧ x ≤ 255) : readT k ⟨(txt k l).toArray⟩ (⟨(txt k l).toArray⟩ : ByteArray).size 0 [] = (l, 0) := by
  have h := readT_txt hk l [] [] (⟨(txt k l).toArray⟩ : ByteArray).size hl (by show (txt k l).length ≤ (txt k l).toArray.size; simp)
  simpa using h
set_option maxRecDepth 100000 in
set_option maxHeartbeats 6400000 in
theorem law_texts (m : Int) (A : Option Addr) (n c : Nat) (L : List Int) (w : World) (m0 : 0 ≤ m) (m1 : m ≤ 255) (hl : L.length = n) (hn : n ≤ c) (hc : c ≤ maxLen) (hw : ∀ x ∈ L, 0 ≤ x ∧ x ≤ 255) (hr : Reads w w.heap.size 1 A n (L.map (Value.int .u8))) :
    Calls Try.prog 11 #[.int .u8 m, .slice A n c] w fun e w' => e = .returned (.bool true) ∧ Up w w' := by
  have hnot : ∀ (x : Bool) (w : World), (Op.unary .not (.bool x)).run Try.prog w = .ok (.bool (!x)) w := fun _ _ => rfl
  have hcv : ∀ (r : Int) (w : World), (convert 21 9 (.int .i32 r)).run Try.prog w = .ok (.string (Utf8.encode r)) w := fun r w => run_convert_int_string w 21 9 .i32 r (by rw [Try.underlying21]; rfl) Try.underlying9
  have HR : Hid (Reads w w.heap.size 1 A n (bs L)) := Lib.hid hr
  have HW := Lib.hid hw
  clear hr hw
  go_enter Try.func11, Try.ntmps11
  go_wp2_with (first
    | (go_at_call 13; refine (awake01 _).mono ?_; rintro e w1 ⟨rfl, hu1⟩)
    | (go_at_call 14; with_reducible refine (pick_is m ⟨m0, m1⟩ _).mono ?_; rintro e w2 ⟨b, k, rfl, hk, hb, hp, hu2⟩))
  have HP2 := Lib.hid hp
  have HB := Lib.hid (show w.heap.size ≤ b from by have := hu1.size; omega)
  have hbl := hp.lt
  clear hp
  refine (cut_any A n c L 300 w2 (HR.out.up (hu1.trans hu2)) hn hc (by omega) (by omega)).mono ?_
  rintro e w3 ⟨A3, n3, c3, rfl, hn3, ho3, hle3, hmx3, hu3⟩
  have hr3 := Reads.of_own ho3
  have hf3 : ∀ p, A3 = some p → w2.heap.size ≤ p.block := fun p hp => (own_bd ho3 p.block (by subst hp; rfl)).1
  have HU3 := Lib.hid ((hu1.trans hu2).trans hu3)
  have hn300 : n3 ≤ 300 := by rw [hn3]; simp; omega
  have hlb : ∀ x ∈ L.take (300 : Int).toNat, 0 ≤ x ∧ x ≤ 255 := fun x hx => HW.out x (List.mem_of_mem_take hx)
  obtain ⟨l, hll⟩ : ∃ l, L.take (300 : Int).toNat = l := ⟨_, rfl⟩
  rw [hll] at hr3 hlb
  have hln : l.length = n3 := by have := hr3.1; simpa [bs] using this
  have HR3 := Lib.hid hr3
  have HF3 := Lib.hid hf3
  have HLB := Lib.hid hlb
  have HP3 := Lib.hid (HP2.out.up hu3)
  clear hn3 ho3 hr3 hf3 hlb hll hu1 hu2
  have hz3 := hu3.size
  clear hu3
  go_wp2_with fail
  refine (copy_any A3 n3 c3 l w3 HR3.out (by omega)).mono ?_
  rintro e w4 ⟨A4, c4, rfl, ho4, hle4, hmx4, hu4⟩
  have HR4 := Lib.hid (Reads.of_own ho4)
  have HF4 := Lib.hid (show ∀ p, A4 = some p → w3.heap.size ≤ p.block from fun p hp => (own_bd ho4 p.block (by subst hp; rfl)).1)
  have HR34 := Lib.hid (HR3.out.up hu4)
  have HP4 := Lib.hid (HP3.out.up hu4)
  have HU4 := Lib.hid (HU3.out.trans hu4)
  clear ho4 hu4
  go_wp2_with fail
  refine (text_is b k hk w4 HP4.out HR4.out HLB.out (by omega) (fun p hp e => by have := HF4.out p hp; omega)).mono ?_
  rintro e w5 ⟨rfl, hp5, hn5⟩
  have HP5 := Lib.hid hp5
  have HR5 := Lib.hid (HR34.out.kept hn5 (fun p hp e => by have := HF3.out p hp; omega))
  have HR45 := Lib.hid (HR4.out.kept hn5 (fun p hp e => by have := HF4.out p hp; omega))
  have HN5 := Lib.hid hn5
  clear hp5 hn5
  have HLN := Lib.hid hln
  go_wp2_with fail
  go_loopw [9, 31] (fun s i wr => ∃ j : Nat, j ≤ n3 ∧ s = .string ⟨(txt k (l.take j)).toArray⟩ ∧ i = .int .i64 (j : Int) ∧ wr = w5) (fun _ i _ => n3 - (intOf i).toNat)
  case atStart => exact ⟨0, by omega, rfl, rfl, rfl⟩
  case round =>
    obtain ⟨j, hj, rfl, rfl, rfl⟩ := hrel
    by_cases hlt : j < n3
    · obtain ⟨ab, off, rfl, hab⟩ := HR5.out.form (by omega)
      obtain ⟨x, hx, hcx, hab2⟩ := reads_bs HR5.out j hlt
      obtain ⟨hx0, hx1⟩ := HLB.out x (List.mem_of_getElem? hx)
      obtain ⟨y, rfl⟩ : ∃ y : Nat, x = (y : Int) := ⟨x.toNat, by omega⟩
      have hm : y < 256 := by omega
      have hs0 := (sign_bd hk hm).1
      have hs1 := sign_low hk hm
      have HX := Lib.hid (show (⟨(txt k (l.take j)).toArray⟩ : ByteArray) ++ Utf8.encode (signN k y) = ⟨(txt k (l.take (j + 1))).toArray⟩ by
        have hjl : j < l.length := by have := HLN.out; omega
        have e : l[j] = (y : Int) := by rw [List.getElem?_eq_getElem hjl] at hx; injection hx
        rw [List.take_succ_eq_append_getElem hjl, txt_snoc, e, str_append _ _ hs0 hs1]; rfl)
      have hcs : ¬ ((⟨(txt k (l.take j)).toArray⟩ : ByteArray).size + (Utf8.encode (signN k y)).size > 9223372036854775807) := by
        have h1 := txt_len k (l.take (j + 1))
        have h2 := congrArg ByteArray.size HX.out
        have h3 : (⟨(txt k (l.take (j + 1))).toArray⟩ : ByteArray).size = (txt k (l.take (j + 1))).length := by show (txt k (l.take (j + 1))).toArray.size = _; simp
        have h4 : (l.take (j + 1)).length ≤ j + 1 := by simp; omega
        rw [ByteArray.size_append, h3] at h2
        omega
      have HS := Lib.hid (rsign_is k hk y hm)
      have hjn : (j : Int) < (n3 : Int) := by omega
      clear hx hs0 hs1
      generalize hsv : signN k y = sv at *
      clear hsv
      go_wp2_with (go_at_call 18; (with_reducible refine (HS.out _).mono ?_); rintro e w6 ⟨rfl, rfl⟩)
      go_roundw
      case rel => exact ⟨j + 1, by omega, by rw [← HX.out], by go_num, by first | rfl | trivial⟩
      case measure => simp [intOf]; omega
    · obtain rfl : j = n3 := by omega
      have HX := Lib.hid (show l.take j = l from List.take_of_length_le (by have := HLN.out; omega))
      rw [HX.out]
      have HRD := Lib.hid (txt_read hk l HLB.out)
      have HSZ := Lib.hid (show (⟨(txt k l).toArray⟩ : ByteArray).size ≤ 65535 by
        show (txt k l).toArray.size ≤ 65535
        have h1 := txt_len k l
        have h2 := HLN.out
        simp only [List.size_toArray]; omega)
      have HCO := Lib.hid (fun W (h : PAt W b k) => codes_is b k hk ⟨(txt k l).toArray⟩ W h HSZ.out)
      rw [HRD.out] at HCO
      obtain ⟨S, hS⟩ : ∃ S : ByteArray, ⟨(txt k l).toArray⟩ = S := ⟨_, rfl⟩
      rw [hS] at HCO ⊢
      clear hS HRD HSZ
      go_wp2_with fail
      refine (HCO.out _ HP5.out).mono ?_
      rintro e w6 ⟨hres, hp6, hn6⟩
      obtain ⟨-, A6, c6, rfl, ho6⟩ : (0 : Int) = 0 ∧ ∃ A c, e = .returned (.tuple #[.slice A l.length c, .int .i64 (l.length : Int), .int .i64 0]) ∧ OwnB wr.heap.size w6 A l.length c l := by
        rcases hres with h | h
        · exact h
        · exact absurd rfl h.1
      have HO6 := Lib.hid ho6
      have HN6 := Lib.hid hn6
      have HR6 := Lib.hid (HR5.out.kept hn6 (fun p hp e => by have := HF3.out p hp; omega))
      have HR46 := Lib.hid (HR45.out.kept hn6 (fun p hp e => by have := HF4.out p hp; omega))
      have hle6 := ho6.le
      have hmx6 : (c6 : Int) ≤ 9223372036854775807 := by have := ho6.mx; simp [maxLen] at this; omega
      clear ho6 hn6 hp6 hres
      have HS1 := Lib.hid (same_any A6 A3 l.length j c6 c3 _ _ l l w6 HO6.out.reads HR6.out HLB.out HLB.out)
      have HS2 := Lib.hid (same_any A4 A3 j j c4 c3 _ _ l l w6 HR46.out HR6.out HLB.out HLB.out)
      have hll : l.length = j := HLN.out
      have e1 : decide (l = l) = true := by simp
      rw [e1] at HS1 HS2
      rw [hll] at HS1 ⊢
      clear hll e1
      go_wp2_with (go_at_call 42; first | ((with_reducible refine HS1.out.mono ?_); rintro e w7 ⟨rfl, rfl⟩) | ((with_reducible refine HS2.out.mono ?_); rintro e w7 ⟨rfl, rfl⟩))
      go_ret
      exact ⟨rfl, (HU4.out.keep HN5.out (fun i hi => by have := HB.out; omega)).keep HN6.out (fun i hi => by have := HB.out; omega)⟩
end Go.Proofs.Ythdoighlfoinaaa
