/-
  The walk of PageReads: whatever the page and the text, it returns true. No condition but utf8's tables as they lie.
-/
import Derived.Test.YthdoighlfoinaaaDoorUtf
import Derived.Test.YthdoighlfoinaaaDoorUtfD
import Derived.Test.YthdoighlfoinaaaDoorRSign
namespace Go.Proofs.YthdoighlfoinaaaDoor
open Go.RowKit Go.Maps
set_option linter.unusedVariables false
set_option linter.unusedSimpArgs false

theorem cutText_is (s : ByteArray) (w : World) (h : s.size ≤ maxLen) : Calls Tryd.prog 13 #[.string s, .int .i64 300] w fun e w' => (∃ t : ByteArray, t.size ≤ 300 ∧ e = .returned (.string t)) ∧ w = w' := by
  have hm : s.size ≤ 9223372036854775807 := by simpa [maxLen] using h
  by_cases hs : (300 : Int) < (s.size : Int)
  · have h3 : (300 : Nat) ≤ s.size := by omega
    go_enter Tryd.func13, Tryd.ntmps13
    go_wp2
    go_ret
    exact ⟨⟨_, by rw [ByteArray.size_extract]; omega, rfl⟩, rfl⟩
  · have h3 : s.size ≤ 300 := by omega
    go_enter Tryd.func13, Tryd.ntmps13
    go_wp2
    go_ret
    exact ⟨⟨s, h3, rfl⟩, rfl⟩
set_option maxRecDepth 100000 in
set_option maxHeartbeats 12800000 in
theorem law_reads1 (m : Int) (s0 : ByteArray) (w : World) (m0 : 0 ≤ m) (m1 : m ≤ 255) (hsz : s0.size ≤ maxLen) (hT : TabU w) :
    Calls Tryd.prog 4 #[.int .u8 m, .string s0] w fun e w' => e = .returned (.bool true) ∧ Up w w' := by
  have hnot : ∀ (x : Bool) (w : World), (Op.unary .not (.bool x)).run Tryd.prog w = .ok (.bool (!x)) w := fun _ _ => rfl
  obtain ⟨i0, hi, hz0, hz1', hz2⟩ := info_parts info_u8
  have HT := Lib.hid hT
  clear hT
  go_enter Tryd.func4, Tryd.ntmps4
  go_wp2_with (first
    | (go_at_call 11; refine (awake01 _).mono ?_; rintro e w1 ⟨rfl, hu1⟩)
    | (go_at_call 12; with_reducible refine (pick_is m ⟨m0, m1⟩ _).mono ?_; rintro e w2 ⟨b, k, rfl, hk, hb, hp, hu2⟩)
    | (go_at_call 13; with_reducible refine (cutText_is s0 _ hsz).mono ?_; rintro e w3 ⟨⟨s, hs3, rfl⟩, rfl⟩))
  have HP2 := Lib.hid hp
  have HB := Lib.hid (show w.heap.size ≤ b from by have := hu1.size; omega)
  have hbl := hp.lt
  have HU2 := Lib.hid (hu1.trans hu2)
  have HT2 := Lib.hid (HT.out.up HU2.out)
  clear hp hu1 hu2 hb hsz HT
  obtain ⟨R, hR⟩ : ∃ R, readT k s s.size 0 [] = R := ⟨_, rfl⟩
  have HR := Lib.hid hR
  clear hR
  go_loopw [7, 8, 9] (fun wv cv iv wr => ∃ (pos f n c : Nat) (A : Option Addr) (acc : List Int) (code : Int), wv = .slice A n c ∧ cv = .int .i64 code ∧ iv = .int .i64 (pos : Int) ∧ OwnB w2.heap.size wr A n c acc ∧ Up w2 wr ∧ ((code = 0 ∧ readT k s f pos acc = R ∧ s.size - pos ≤ f) ∨ ((code == 0) = false ∧ R = (acc, code))) ∧ n ≤ pos ∧ pos ≤ s.size ∧ ∀ x ∈ acc, 0 ≤ x ∧ x ≤ 255) (fun _ _ iv _ => s.size - (intOf iv).toNat)
  case atStart =>
    exact ⟨0, s.size, 0, 0, none, [], 0, rfl, rfl, rfl, OwnB.nil _ _, Up.refl _, .inl ⟨rfl, HR.out, by omega⟩, by omega, by omega, by simp⟩
  case round =>
    obtain ⟨pos, f, n, c, A, acc, code, rfl, rfl, rfl, hown, hu, hst, hnp, hpz0, hbd⟩ := hrel
    have HBD := Lib.hid hbd
    clear hbd
    have hle := hown.le
    have hmx := hown.mx
    have hcm : (c : Int) ≤ 9223372036854775807 := by simp [maxLen] at hmx; omega
    have HO := Lib.hid hown
    have HU := Lib.hid hu
    have hsz := hu.size
    have HNL := Lib.hid hown.len
    clear hown hu hmx
    have HCO := Lib.hid (codes_is b k hk s wr (HP2.out.up HU.out) (by omega))
    rw [HR.out] at HCO
    have tail : ∀ code' : Int, R = (acc, code') → True := fun _ _ => trivial
    by_cases hpz : pos < s.size
    · rcases hst with ⟨rfl, hrd, hfu⟩ | ⟨hc0, hRc⟩
      · have hpi : (pos : Int) < (s.size : Int) := by omega
        have hwd := decode_width s pos hpz
        have hwl : pos + (Utf8.decode s pos).2 ≤ s.size := dec_le s pos hpz
        have hbi := bad_iff s pos
        have hde := dec_ext s pos hpz
        have HDC := Lib.hid (fun W (h : TabU W) => decodeRune_is (s.extract pos s.size) W h)
        rw [hde] at HDC
        obtain ⟨f, rfl⟩ : ∃ f', f = f' + 1 := ⟨f - 1, by omega⟩
        simp only [readT, if_pos hpz] at hrd
        obtain ⟨r, hr⟩ : ∃ r, (Utf8.decode s pos).1 = r := ⟨_, rfl⟩
        obtain ⟨q, hq⟩ : ∃ q, (Utf8.decode s pos).2 = q := ⟨_, rfl⟩
        rw [hr, hq] at hrd HDC hbi
        rw [hq] at hwd hwl
        clear hr hq hde
        have HRC := Lib.hid (rcode_is k hk (r : Int))
        have hvb := codeV_bd k (r : Int) hk
        have hrv : refCode k (r : Int) = if (codeN k (r : Int)).isSome = true then codeV k (r : Int) else -1 := by
          unfold refCode codeV
          cases codeN k (r : Int) <;> rfl
        rw [hrv] at HRC
        clear hrv
        have HRD := Lib.hid hrd
        have HBI := Lib.hid hbi
        clear hrd hbi
        obtain ⟨v, hv⟩ : ∃ v, codeV k (r : Int) = v := ⟨_, rfl⟩
        obtain ⟨is, his⟩ : ∃ is, (codeN k (r : Int)).isSome = is := ⟨_, rfl⟩
        rw [hv, his] at HRC HRD
        rw [hv] at hvb
        clear hv his
        have hT4 := Lib.hid (HT2.out.up HU.out)
        cases e1 : ((r : Int) == 65533) <;> cases e2 : ((q : Int) == 1) <;> cases is
        all_goals
          have h1 := e1
          have h2 := e2
          simp only [beq_iff_eq, beq_eq_false_iff_ne] at h1 h2
          have H1 := Lib.hid h1
          have H2 := Lib.hid h2
          clear h1 h2
        all_goals simp only [if_true, Bool.false_eq_true, if_false] at HRC
        all_goals
          go_wp2_with (first
            | (go_at_call 14; (with_reducible refine (HDC.out _ hT4.out).mono ?_); rintro e w4 ⟨rfl, hu4⟩; have HU4 := Lib.hid hu4; have HO4 := Lib.hid (HO.out.up hu4); have hz4 := hu4.size; clear hu4)
            | (go_at_call 15; (with_reducible refine (HRC.out _).mono ?_); rintro e w5 ⟨rfl, rfl⟩)
            | (at_builtin; refine wpList_pushB i0 hi hz0 hz1' hz2 Tryd.underlying33 rfl (.tmp 43) (.tmp 46) rfl w4 v rfl w4.heap.size rfl w2.heap.size A n c acc rfl rfl HO4.out (by omega) (by omega) ?_; intro A1 c1 w6 hown1 hg1 hbl1 hp1; have HO6 := Lib.hid hown1; have HB6 := Lib.hid hbl1; clear hown1 hg1 hbl1 hp1))
        all_goals
          go_roundw
          case rel =>
            have h1 := H1.out
            have h2 := H2.out
            have hbi := HBI.out
            have hrd := HRD.out
            first
              | (refine ⟨pos + q, f, n, c, A, acc, 4, rfl, rfl, by go_num, HO4.out, HU.out.trans HU4.out, .inr ⟨rfl, ?_⟩, by omega, hwl, HBD.out⟩
                 rw [if_pos ⟨by omega, (hbi (by omega)).1 (by omega)⟩] at hrd
                 exact hrd.symm)
              | (refine ⟨pos + q, f, n, c, A, acc, 12, rfl, rfl, by go_num, HO4.out, HU.out.trans HU4.out, .inr ⟨rfl, ?_⟩, by omega, hwl, HBD.out⟩
                 rw [if_neg (fun h => by first | omega | (have := (hbi h.1).2 h.2; omega))] at hrd
                 exact hrd.symm)
              | (refine ⟨pos + q, f, n + 1, c1, A1, acc ++ [v], 0, rfl, rfl, by go_num, HO6.out, (HU.out.trans HU4.out).past HB6.out, .inl ⟨rfl, ?_, by omega⟩, by omega, hwl, fun x hx => by rcases List.mem_append.1 hx with h | h; exact HBD.out x h; rw [List.mem_singleton.1 h]; exact hvb⟩
                 rw [if_neg (fun h => by first | omega | (have := (hbi h.1).2 h.2; omega))] at hrd
                 exact hrd)
          case measure => simp [intOf]; omega
      · have hpi : (pos : Int) < (s.size : Int) := by omega
        have hc0' : (code != 0) = true := by simp [bne, hc0]
        rw [hRc] at HCO
        clear hRc
        go_wp2_with fail
        refine HCO.out.mono ?_
        rintro e w6 ⟨hres, -, hn6⟩
        obtain ⟨-, rfl⟩ : code ≠ 0 ∧ e = .returned (.tuple #[.slice none 0 0, .int .i64 (acc.length : Int), .int .i64 code]) := by
          rcases hres with h | h
          · exact absurd (show code = 0 from h.1) (by simpa using hc0)
          · exact h
        have HN6 := Lib.hid hn6
        clear hn6 hres
        have hll := HNL.out
        rw [hll]
        clear hll
        go_wp2_with fail
        go_ret
        exact ⟨rfl, (HU2.out.trans HU.out).keep HN6.out (fun i hi => by have := HB.out; omega)⟩
    · have hpi : ¬ ((pos : Int) < (s.size : Int)) := by omega
      rcases hst with ⟨rfl, hrd, hfu⟩ | ⟨hc0, hRc⟩
      · have hRc : R = (acc, 0) := by rw [← hrd, readT_end k s f pos acc hpz]
        clear hrd
        rw [hRc] at HCO
        clear hRc
        go_wp2_with fail
        refine HCO.out.mono ?_
        rintro e w6 ⟨hres, -, hn6⟩
        obtain ⟨-, A6, c6, rfl, ho6⟩ : (0 : Int) = 0 ∧ ∃ A c, e = .returned (.tuple #[.slice A acc.length c, .int .i64 (acc.length : Int), .int .i64 0]) ∧ OwnB wr.heap.size w6 A acc.length c acc := by
          rcases hres with h | h
          · exact h
          · exact absurd rfl h.1
        have HN6 := Lib.hid hn6
        have hle6 := ho6.le
        have hmx6 : (c6 : Int) ≤ 9223372036854775807 := by have := ho6.mx; simp [maxLen] at this; omega
        have HR6 := Lib.hid ((HO.out.held hn6 (fun p hp e => by have := (HO.out.at_ p hp).1; omega)).reads)
        have HAB := Lib.hid (show ∀ x ∈ acc, 0 ≤ x ∧ x ≤ 255 from HBD.out)
        have HS1 := Lib.hid (same_any A6 A acc.length n c6 c _ _ acc acc w6 ho6.reads HR6.out HAB.out HAB.out)
        have e1 : decide (acc = acc) = true := by simp
        rw [e1] at HS1
        clear hn6 hres ho6 e1
        have hll := HNL.out
        rw [hll] at HS1 hle6 ⊢
        clear hll
        go_wp2_with (go_at_call 17; (with_reducible refine HS1.out.mono ?_); rintro e w7 ⟨rfl, rfl⟩)
        go_ret
        exact ⟨rfl, (HU2.out.trans HU.out).keep HN6.out (fun i hi => by have := HB.out; omega)⟩
      · have hc0' : (code != 0) = true := by simp [bne, hc0]
        rw [hRc] at HCO
        clear hRc
        go_wp2_with fail
        refine HCO.out.mono ?_
        rintro e w6 ⟨hres, -, hn6⟩
        obtain ⟨-, rfl⟩ : code ≠ 0 ∧ e = .returned (.tuple #[.slice none 0 0, .int .i64 (acc.length : Int), .int .i64 code]) := by
          rcases hres with h | h
          · exact absurd (show code = 0 from h.1) (by simpa using hc0)
          · exact h
        have HN6 := Lib.hid hn6
        clear hn6 hres
        have hll := HNL.out
        rw [hll]
        clear hll
        go_wp2_with fail
        go_ret
        exact ⟨rfl, (HU2.out.trans HU.out).keep HN6.out (fun i hi => by have := HB.out; omega)⟩
end Go.Proofs.YthdoighlfoinaaaDoor
