/-
  page's Codes of a text. Conditions: where the page lies; the text is shorter than 65536 bytes.
-/
import Derived.Test.YthdoighlfoinaaaDoorPage8
import Derived.Test.YthdoighlfoinaaaDoorStrP
import Derived.Test.YthdoighlfoinaaaDoorBytes
import Derived.Lib.OthersKept
import Derived.Test.YthdoighlfoinaaaDoorListB
namespace Go.Proofs.YthdoighlfoinaaaDoor
open Go.RowKit Go.Maps
set_option linter.unusedVariables false
set_option linter.unusedSimpArgs false

/-- what stands for no sign: a broken form, and not the sign that stands for one -/
def prefixed (s : ByteArray) (pos : Nat) : Bool := Lib.hasPrefix (s.extract pos s.size).data.toList [239, 191, 189]
/-- the codes of a text, and the error -/
def readT (k : Int) (s : ByteArray) : Nat → Nat → List Int → List Int × Int
  | 0, _, acc => (acc, 0)
  | f + 1, pos, acc => if pos < s.size then (if (Utf8.decode s pos).1 = 65533 ∧ prefixed s pos = false then (acc, 4) else
      if (codeN k ((Utf8.decode s pos).1 : Int)).isSome = true then readT k s f (pos + (Utf8.decode s pos).2) (acc ++ [codeV k ((Utf8.decode s pos).1 : Int)]) else (acc, 12)) else (acc, 0)
theorem decode_width (s : ByteArray) (pos : Nat) (h : pos < s.size) : 1 ≤ (Utf8.decode s pos).2 := by
  by_cases ha : (s[pos]'h).toNat < 128
  · rw [decode_ascii s pos h ha]
    exact Nat.le_refl _
  · exact (decode_high s pos h (by omega)).2
theorem readT_end (k : Int) (s : ByteArray) (f pos : Nat) (acc : List Int) (h : ¬ pos < s.size) : readT k s f pos acc = (acc, 0) := by
  cases f with
  | zero => rfl
  | succ f => simp [readT, h]
theorem codeV_bd (k s : Int) (hk : isPage k = true) : 0 ≤ codeV k s ∧ codeV k s ≤ 255 := by
  unfold codeV
  cases h : codeN k s with
  | none => simp
  | some c =>
    have : c < 256 := (code_lt h).1
    simp; omega
theorem decode_wf (s : ByteArray) (pos : Nat) : (Lit.int .i32 ((Utf8.decode s pos).1 : Int)).wf = true := by
  have := decode_le s pos
  exact wf_i32 (by omega)
theorem keep_iterAt (w : World) (k : Nat) (s : ByteArray) (pos : Nat) : Keep (fun i => i = k) w (w.iterAt k s pos) :=
  ⟨rfl, rfl, rfl, by rw [Lib.iterAt_size]; exact Nat.le_refl _, fun i _ hi => Lib.iterAt_other w k i s pos hi⟩
theorem PAt.iterAt {w : World} {b k0 : Nat} {k : Int} {s : ByteArray} {pos : Nat} (h : PAt w b k) (hb : b ≠ k0) (hit : w.heap[k0]? = some (.stringIter s pos)) (pos' : Nat) : PAt (w.iterAt k0 s pos') b k := by
  rcases h with h | ⟨m, hm, h, hmp⟩
  · exact .inl (h.keep (keep_iterAt w k0 s pos') hb)
  · refine .inr ⟨m, hm, h.keep (keep_iterAt w k0 s pos') hb, hmp.keep (keep_iterAt w k0 s pos') ?_⟩
    rintro rfl
    obtain ⟨es, clock, hbk, r⟩ := hmp
    rw [hit] at hbk
    cases hbk
theorem PAt.grown {w w' : World} {b B : Nat} {k : Int} {A : Option Addr} {n c : Nat} {l : List Int} {o : Obj} (h : PAt w b k) (ho : OwnB B w A n c l) (hg : (w.alloc o).grownBy w' (Value.slice A n c).ownBlock) (hbl : Below B w w') (hb : b < B) : PAt w' b k := by
  rcases h with h | ⟨m, hm, h, hmp⟩
  · exact .inl (h.of_block (hbl.block b hb) hbl.size)
  · refine .inr ⟨m, hm, h.of_block (hbl.block b hb) hbl.size, ?_⟩
    have hlt := World.ownsMap.lt hmp
    obtain ⟨es, clock, hbk, r⟩ := hmp
    refine ⟨es, clock, ?_, r⟩
    rw [hg.block m (by simp; omega) (fun e => ?_)]
    · exact (Below.heap_alloc _ _ _ hlt).trans hbk
    · cases A with
      | none => simp [Value.ownBlock] at e
      | some p =>
        simp [Value.ownBlock] at e
        obtain ⟨o', h1, h2⟩ := ho.cells p rfl
        rw [show p.block = m from e.symm, hbk] at h1
        injection h1 with h1
        subst h1
        cases h2
/-- what Codes hands over -/
def CodesR (B : Nat) (r : List Int × Int) (e : Ending) (w' : World) : Prop :=
  (r.2 = 0 ∧ ∃ A c, e = .returned (.tuple #[.slice A r.1.length c, .int .i64 (r.1.length : Int), .int .i64 0]) ∧ OwnB B w' A r.1.length c r.1) ∨ (r.2 ≠ 0 ∧ e = .returned (.tuple #[.slice none 0 0, .int .i64 (r.1.length : Int), .int .i64 r.2]))
theorem codesR_bad {B : Nat} {acc : List Int} {n : Nat} {v : Int} {w' : World} (hn : acc.length = n) (hv : v ≠ 0) : CodesR B (acc, v) (.returned (.tuple #[.slice none 0 0, .int .i64 (n : Int), .int .i64 v])) w' := by
  subst hn
  exact .inr ⟨hv, rfl⟩
theorem codesR_ok {B B' : Nat} {acc : List Int} {A : Option Addr} {n c : Nat} {w' : World} (h : OwnB B w' A n c acc) (hB : B' ≤ B) : CodesR B' (acc, 0) (.returned (.tuple #[.slice A n c, .int .i64 (n : Int), .int .i64 0])) w' := by
  have hn := h.len
  subst hn
  exact .inl ⟨rfl, A, c, rfl, h.low hB⟩

set_option maxRecDepth 100000 in
set_option maxHeartbeats 6400000 in
theorem codes_is (b : Nat) (k : Int) (hk : isPage k = true) (s : ByteArray) (w : World) (h : PAt w b k) (hn : s.size ≤ 65535) :
    Calls Tryd.prog 16 #[.pointer (some ⟨b, 0, none⟩), .string s] w fun e w' => CodesR w.heap.size (readT k s s.size 0 []) e w' ∧ PAt w' b k ∧ Near b w w' := by
  obtain ⟨i0, hi, hz0, hz1', hz2⟩ := info_parts info_u8
  have hb := h.lt
  obtain ⟨R, hR⟩ : ∃ R, readT k s s.size 0 [] = R := ⟨_, rfl⟩
  rw [hR]
  go_enter Tryd.func16, Tryd.ntmps16
  go_wp2_with fail
  go_loopw [7] (fun o wr => ∃ (pos f n c : Nat) (A : Option Addr) (acc : List Int), o = .slice A n c ∧ OwnB (w.heap.size + 1) wr A n c acc ∧ wr.heap[w.heap.size]? = some (.stringIter s pos) ∧ PAt wr b k ∧ Near b w wr ∧ readT k s f pos acc = R ∧ s.size - pos ≤ f ∧ n ≤ pos) (fun _ wr => s.size - wr.iterPos w.heap.size)
  case atStart =>
    exact ⟨0, s.size, 0, 0, none, [], rfl, OwnB.nil _ _, World.iter_heap w s 0, h.up ((Up.refl w).alloc _), Keep.of_up ((Up.refl w).alloc _), hR, by omega, by omega⟩
  case round =>
    obtain ⟨pos, f, n, c, A, acc, rfl, hown, hit, hp, hu, hrd, hfu, hnp⟩ := hrel
    have hsz : w.heap.size < wr.heap.size := (Array.getElem?_eq_some_iff.1 hit).1
    have hle := hown.le
    have hnl := hown.len
    have hmx := hown.mx
    have hcm : (c : Int) ≤ 9223372036854775807 := by simp [maxLen] at hmx; omega
    by_cases hpz : pos < s.size
    · have hnx : ∀ ty, (Instr.next (.pointer (some ⟨w.heap.size, 0, none⟩)) true ty).run Tryd.prog wr = _ := fun ty => Lib.run_next_any_at wr w.heap.size s pos ty hit hpz
      have hwd := decode_width s pos hpz
      have hwf := decode_wf s pos
      have hpre : ∀ W, Calls Tryd.prog 28 #[.string (s.extract pos s.size), .string { data := #[239, 191, 189] }] W (fun e w' => e = .returned (.bool (prefixed s pos)) ∧ w' = W) := fun W => hasPrefix_is _ _ W
      obtain ⟨f, rfl⟩ : ∃ f', f = f' + 1 := ⟨f - 1, by omega⟩
      simp only [readT, if_pos hpz] at hrd
      obtain ⟨r, hr⟩ : ∃ r, (Utf8.decode s pos).1 = r := ⟨_, rfl⟩
      obtain ⟨q, hq⟩ : ∃ q, (Utf8.decode s pos).2 = q := ⟨_, rfl⟩
      rw [hr, hq] at hrd hnx
      rw [hr] at hwf
      rw [hq] at hwd
      clear hr hq
      have hp2 : PAt (wr.iterAt w.heap.size s (pos + q)) b k := hp.iterAt (by omega) hit _
      have hit2 := Lib.iterAt_heap wr w.heap.size s pos (pos + q) hit
      have hu2 : Near b w (wr.iterAt w.heap.size s (pos + q)) := Keep.far hu (Lib.below_iterAt (Below.refl _ _) (Nat.le_refl _) s (pos + q))
      have ho2 : OwnB (w.heap.size + 1) (wr.iterAt w.heap.size s (pos + q)) A n c acc := hown.held (keep_iterAt _ _ _ _) (fun p hp e => by have := (hown.at_ p hp).1; omega)
      have hz2' : (wr.iterAt w.heap.size s (pos + q)).heap.size = wr.heap.size := Lib.iterAt_size _ _ _ _
      obtain ⟨wi, hwi⟩ : ∃ wi, wr.iterAt w.heap.size s (pos + q) = wi := ⟨_, rfl⟩
      rw [hwi] at hp2 hit2 hu2 ho2 hnx hz2'
      have hm1 : s.size - wr.iterPos w.heap.size = s.size - pos := by simp only [World.iterPos, hit]
      have HM1 := Lib.hid hm1
      have HCO := Lib.hid (code_at b k hk (r : Int) hwf wi hp2)
      have hvb := codeV_bd k (r : Int) hk
      have HIT := Lib.hid hit2
      have HU := Lib.hid hu2
      have HO := Lib.hid ho2
      have HP := Lib.hid hp2
      have HNL := Lib.hid hnl
      have HPR := Lib.hid hpre
      have hzi : w.heap.size < wi.heap.size := by omega
      clear hwi hm1 hp hit hu hown hit2 hu2 ho2 hp2 hnl hpre hwf
      have HRD := Lib.hid hrd
      clear hrd
      obtain ⟨pf, hpf⟩ : ∃ pf, prefixed s pos = pf := ⟨_, rfl⟩
      rw [hpf] at HPR HRD
      clear hpf
      obtain ⟨v, hv⟩ : ∃ v, codeV k (r : Int) = v := ⟨_, rfl⟩
      obtain ⟨is, his⟩ : ∃ is, (codeN k (r : Int)).isSome = is := ⟨_, rfl⟩
      rw [hv, his] at HCO HRD
      rw [hv] at hvb
      clear hv his
      have walk : True := trivial
      cases e1 : ((r : Int) == 65533) <;> cases pf <;> cases is
      all_goals
        have h1 := e1
        simp only [beq_iff_eq, beq_eq_false_iff_ne] at h1
        have H1 := Lib.hid h1
        clear h1
      all_goals
        go_wp2_with (first
          | (go_at_call 28; (with_reducible refine (HPR.out _).mono ?_); rintro e w3 ⟨rfl, rfl⟩)
          | (go_at_call 24; (with_reducible refine HCO.out.mono ?_); rintro e w1 ⟨rfl, hp1, hn1⟩; have HP1 := Lib.hid hp1; have HN1 := Lib.hid hn1; have HIT1 := Lib.hid (show w1.heap[w.heap.size]? = some (.stringIter s (pos + q)) from (hn1.block _ hzi (by omega)).trans HIT.out); have HO1 := Lib.hid (HO.out.held hn1 (fun p hp e => by have := (HO.out.at_ p hp).1; omega)); have hz1 := hn1.size; clear hp1 hn1)
          | (at_builtin; refine wpList_pushB i0 hi hz0 hz1' hz2 Tryd.underlying33 rfl (.tmp 41) (.tmp 43) rfl w1 v rfl w1.heap.size rfl (w.heap.size + 1) A n c acc rfl rfl HO1.out (by omega) (by omega) ?_; intro A1 c1 w2 hown1 hg1 hbl1 hp1; have HO2 := Lib.hid hown1; have HG1 := Lib.hid hg1; have HB1 := Lib.hid hbl1; clear hown1 hg1 hbl1 hp1))
        all_goals first
          | (go_ret3; exact ⟨by have h9 := HRD.out; have h1 := H1.out; have h2 : r = 65533 := (by omega); simp [h2] at h9; rw [← h9]; exact codesR_bad HNL.out (by decide), HP.out, HU.out⟩)
          | (go_ret3; exact ⟨by have h9 := HRD.out; have h1 := H1.out; have h2 : r = 65533 := (by omega); simp [h2] at h9; rw [← h9]; exact codesR_bad HNL.out (by decide), HP1.out, HU.out.trans HN1.out⟩)
          | (go_ret3; exact ⟨by have h9 := HRD.out; have h1 := H1.out; have h2 : ¬ r = 65533 := (by omega); simp [h2] at h9; rw [← h9]; exact codesR_bad HNL.out (by decide), HP1.out, HU.out.trans HN1.out⟩)
          | skip
        all_goals
          go_roundw
          case rel =>
            refine ⟨pos + q, f, n + 1, c1, A1, acc ++ [v], rfl, HO2.out, (HB1.out.block _ (by omega)).trans HIT1.out, HP1.out.grown HO1.out HG1.out HB1.out (by omega), Keep.far (HU.out.trans HN1.out) (HB1.out.mono (by omega)), ?_, by omega, by omega⟩
            have h9 := HRD.out
            first
              | (have h1 := H1.out; have h2 : r = 65533 := (by omega); simpa [h2] using h9)
              | (have h1 := H1.out; have h2 : ¬ r = 65533 := (by omega); simpa [h2] using h9)
          case measure =>
            have h8 := HM1.out
            rw [h8]
            have h9 : w2.heap[w.heap.size]? = some (.stringIter s (pos + q)) := (HB1.out.block _ (by omega)).trans HIT1.out
            simp only [World.iterPos, h9]
            omega
    · have hnx : ∀ ty, (Instr.next (.pointer (some ⟨w.heap.size, 0, none⟩)) true ty).run Tryd.prog wr = _ := fun ty => Lib.run_next_end_at wr w.heap.size s pos ty hit hpz
      have HRD := Lib.hid ((readT_end k s f pos acc hpz).symm.trans hrd)
      have HU := Lib.hid hu
      have HO := Lib.hid hown
      have HP := Lib.hid hp
      clear hrd hu hown hp hit hnl
      go_wp2_with fail
      go_ret3
      exact ⟨by rw [← HRD.out]; exact codesR_ok HO.out (by omega), HP.out, HU.out⟩
end Go.Proofs.YthdoighlfoinaaaDoor
