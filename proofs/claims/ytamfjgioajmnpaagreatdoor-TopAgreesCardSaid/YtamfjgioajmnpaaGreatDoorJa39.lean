/-
The link's hear: a word of an option. Conditions: how it lies.
The link's sub: TERMINAL-TYPE is asked for. Conditions: how it lies; that it was agreed on.
The link's take: a word, a question for the type, data, in a mode. Conditions: how it lies.
-/
import Derived.Test.YtamfjgioajmnpaaGreatDoorJa38
import Derived.Deep.RegionHeldLaw
import Derived.Deep.RegionLaw
namespace Go.Proofs.YtamfjgioajmnpaaGreatDoor
open Go.RowKit
set_option linter.unusedVariables false
set_option linter.unusedSimpArgs false

/-- a word is heard -/
def hearT (L : LkT) (v : Int) (k : Nat) : LkT :=
  let S' := hearS v k L.S L.G
  { L with S := S', out := L.out ++ wordsB (hearL v k L.S L.G), en := if S' 0 40 == 1 then L.en else L.en.reset }
set_option maxRecDepth 100000 in
set_option maxHeartbeats 6400000 in
theorem lhear_is {w : World} {b k : Nat} {F : Nat → Prop} {L : LkT} {v o kd : Int} {Ae : Option Addr} {ne ce : Nat} {t1 t2 : Bool} (h : LkAt w b F L) (hv : 0 ≤ v ∧ v ≤ 255) (hk : k < 256) (ho : o = (k : Int)) (hn : L.out.length ≤ 1000000000) :
    Calls Tryz.prog 138 #[.pointer (some ⟨b, 0, none⟩), .agg #[.int .i64 kd, .int .u8 v, .int .u8 o, .slice Ae ne ce, .bool t1, .bool t2]] w (LkPost w b F (hearT L v k)) := by
  subst ho
  obtain ⟨own, br, bo, be, bm, Ao, co, h⟩ := h
  have H := Lib.hid h
  have k1 := h.st.cell 1 (v := .pointer (some ⟨bo, 0, none⟩)) rfl
  have zb := h.st.lt
  obtain ⟨w0, hw0⟩ : ∃ w0, w.alloc (.cells #[.int .i64 kd, .int .u8 v, .int .u8 (k : Int), .slice Ae ne ce, .bool t1, .bool t2] 165) = w0 := ⟨_, rfl⟩
  have hu0 : Up w w0 := by rw [← hw0]; exact (Up.refl w).alloc _
  have sb : St w0 165 w.heap.size [.int .i64 kd, .int .u8 v, .int .u8 (k : Int), .slice Ae ne ce, .bool t1, .bool t2] := by rw [← hw0]; exact St.new w _ _ rfl
  have hmp : w0.cell? ⟨b, 1, none⟩ = some (.pointer (some ⟨bo, 0, none⟩)) := ((hu0.at_ b zb).1 1).trans k1
  obtain ⟨B, hB⟩ : ∃ B, w.heap.size = B := ⟨_, rfl⟩
  have hbB : bo < B := by rw [← hB]; exact h.zo
  have hbB2 : b < B := by rw [← hB]; exact zb
  have hbo : bo ≠ b := fun e => by have h1 := h.fo.2; have h2 := h.fb.2; rw [e] at h1; rw [h1] at h2; cases h2
  rw [hB] at sb
  have z1 := sb.cell 1 (v := .int .u8 v) rfl
  have z2 := sb.cell 2 (v := .int .u8 (k : Int)) rfl
  have zB := sb.lt
  have zb0 : b < w0.heap.size := by omega
  have HU0 := Lib.hid hu0
  have HH := Lib.hid (hear_at (v := v) (o := (k : Int)) k (MAt.drew (h.ma.upw hu0)) (by have := hu0.size; have := h.zo; show bo < w0.heap.size; omega) hk rfl)
  have HW0 := Lib.hid hw0
  have HB := Lib.hid hB
  clear h hu0 hw0 hB sb
  go_enter Tryz.func138, Tryz.ntmps138
  go_wp2_with fail
  rw [HW0.out, HB.out]
  go_region_held_law (fun w' => w'.cell? ⟨b, 1, none⟩ = some (.pointer (some ⟨bo, 0, none⟩)) ∧ w'.cell? ⟨B, 1, none⟩ = some (.int .u8 v) ∧ w'.cell? ⟨B, 2, none⟩ = some (.int .u8 (k : Int))) (first | exact ⟨hmp, z1, z2⟩ | exact ⟨s0, s1, s2⟩ | go_keep) ((go_simp; go_at_call 75; refine HH.out.mono ?_; rintro e w1 ⟨A2, n2, c2, rfl, hn2, hr2, hf2, hm2, hk2⟩; obtain ⟨kc, kf⟩ := hk2.at_ b (show b < w0.drew.heap.size from zb0) (fun e => hbo e.symm); obtain ⟨kx, -⟩ := hk2.at_ B (show B < w0.drew.heap.size from zB) (by omega); have s0 := (kc 1).trans hmp; have s1 := (kx 1).trans z1; have s2 := (kx 2).trans z2; have HN2 := Lib.hid hn2; have HR2 := Lib.hid hr2; have HF2 := Lib.hid hf2; have HM2 := Lib.hid hm2; have HK2 := Lib.hid hk2; clear hn2 hr2 hf2 hm2 hk2 kc kf kx))
  have h0 : LkI w0 b F own L br bo be bm Ao co := H.out.keep (E := fun _ => False) (Keep.of_up HU0.out) (fun _ _ h => h)
  obtain ⟨h1, hk1⟩ := h0.put_ma (w' := w1) ((Keep.refl _ w0).drew.trans HK2.out) HM2.out (hearS_ok h0.ok)
  have hkw : Keep F w w1 := (Keep.of_up HU0.out).trans hk1
  have h1' : LkI w1 b (Gr F w w1) (recol own w0 2) { L with S := hearS v k L.S L.G } br bo be bm Ao co := h1.wide (fun k hk => hk.imp id (fun h => ⟨by have := HU0.out.size; omega, h.2⟩)) (Gr.lt H.out.lt hkw.size)
  have HL1 := Lib.hid (show LkAt w1 b (Gr F w w1) { L with S := hearS v k L.S L.G } from ⟨_, _, _, _, _, _, _, h1'⟩)
  have HKW := Lib.hid hkw
  have hlast : ∀ (w2 : World) (M : List (Int × Int)), M = hearL v k L.S L.G → LkPost w1 b (Gr F w w1) (sayT { L with S := hearS v k L.S L.G } M) (.returned (.tuple #[])) w2 → LkPost w b F (sayT { L with S := hearS v k L.S L.G } (hearL v k L.S L.G)) (.returned (.tuple #[])) w2 := fun w2 M e hp => by
    rw [e] at hp
    exact LkPost.then HKW.out hp H.out.lt
  have HLAST := Lib.hid hlast
  have z1 : b < w1.heap.size := by have := HK2.out.size; have : w0.heap.size ≤ w1.heap.size := this; omega
  clear h0 h1 hk1 hkw h1' hlast
  rcases hearL_form v k L.S L.G with hL | ⟨x, hL, hx⟩
  · obtain rfl : n2 = 0 := by rw [HN2.out, hL]; rfl
    have HSAY := Lib.hid (say0_is (A := A2) (c := c2) HL1.out)
    have HLL := Lib.hid hL
    clear hL
    go_wp2_with fail
    refine HSAY.out.mono ?_
    rintro e w2 ⟨rfl, hp2, hp3⟩
    have HP := Lib.hid (HLAST.out _ _ HLL.out.symm ⟨rfl, hp2, hp3⟩)
    clear hp2 hp3
    obtain ⟨-, ⟨own2, br2, bo2, be2, bm2, Ao2, co2, h2⟩, hk2⟩ := HP.out
    have H2 := Lib.hid h2
    have HK2w := Lib.hid hk2
    have q1 := h2.st.cell 1 (v := .pointer (some ⟨bo2, 0, none⟩)) rfl
    have q2 := h2.st.cell 2 (v := .pointer (some ⟨be2, 0, none⟩)) rfl
    have zq := h2.st.lt
    obtain ⟨t, ht⟩ : ∃ t, (hearS v k L.S L.G 0 40 == 1) = t := ⟨_, rfl⟩
    have HON := Lib.hid (on_at (i' := 0) (o := 40) 0 40 h2.ma h2.ok (by omega) (by omega) rfl rfl ht)
    have HRS := Lib.hid (reset_is h2.en)
    have HT := Lib.hid ht
    clear h2 hk2 ht
    cases t
    · go_wp2_with fail
      refine HON.out.mono ?_
      rintro e w3 ⟨rfl, rfl⟩
      go_wp2_with fail
      refine HRS.out.mono ?_
      rintro e w3 ⟨rfl, hm3, hk3⟩
      go_wp2_with fail
      go_end0
      obtain ⟨h4, hk4⟩ := H2.out.put_en (hk3.mono (fun k e => by rw [e]; exact H2.out.en.fb)) hm3
      have hT : hearT L v k = { sayT { L with S := hearS v k L.S L.G } (hearL v k L.S L.G) with en := L.en.reset } := by
        unfold hearT sayT; simp only [HT.out]; rfl
      rw [hT]
      exact LkPost.then HK2w.out ⟨rfl, ⟨_, _, _, _, _, _, _, h4⟩, hk4⟩ H.out.lt
    · go_wp2_with fail
      refine HON.out.mono ?_
      rintro e w3 ⟨rfl, rfl⟩
      go_wp2_with fail
      go_end0
      have hT : hearT L v k = sayT { L with S := hearS v k L.S L.G } (hearL v k L.S L.G) := by
        unfold hearT sayT; simp only [HT.out]; rfl
      rw [hT]
      exact HP.out
  · obtain rfl : n2 = 1 := by rw [HN2.out, hL]; rfl
    have hr2 := HR2.out
    rw [hL] at hr2
    obtain ⟨g2, o2, rfl, hg2, x2, y2⟩ := word_one hr2
    have HSAY := Lib.hid (say1_is (c := c2) HL1.out hx (by omega) x2 y2 hn)
    have HLL := Lib.hid hL
    clear hL hr2
    go_wp2_with fail
    refine HSAY.out.mono ?_
    rintro e w2 ⟨rfl, hp2, hp3⟩
    have HP := Lib.hid (HLAST.out _ _ HLL.out.symm ⟨rfl, hp2, hp3⟩)
    clear hp2 hp3
    obtain ⟨-, ⟨own2, br2, bo2, be2, bm2, Ao2, co2, h2⟩, hk2⟩ := HP.out
    have H2 := Lib.hid h2
    have HK2w := Lib.hid hk2
    have q1 := h2.st.cell 1 (v := .pointer (some ⟨bo2, 0, none⟩)) rfl
    have q2 := h2.st.cell 2 (v := .pointer (some ⟨be2, 0, none⟩)) rfl
    have zq := h2.st.lt
    obtain ⟨t, ht⟩ : ∃ t, (hearS v k L.S L.G 0 40 == 1) = t := ⟨_, rfl⟩
    have HON := Lib.hid (on_at (i' := 0) (o := 40) 0 40 h2.ma h2.ok (by omega) (by omega) rfl rfl ht)
    have HRS := Lib.hid (reset_is h2.en)
    have HT := Lib.hid ht
    clear h2 hk2 ht
    cases t
    · go_wp2_with fail
      refine HON.out.mono ?_
      rintro e w3 ⟨rfl, rfl⟩
      go_wp2_with fail
      refine HRS.out.mono ?_
      rintro e w3 ⟨rfl, hm3, hk3⟩
      go_wp2_with fail
      go_end0
      obtain ⟨h4, hk4⟩ := H2.out.put_en (hk3.mono (fun k e => by rw [e]; exact H2.out.en.fb)) hm3
      have hT : hearT L v k = { sayT { L with S := hearS v k L.S L.G } (hearL v k L.S L.G) with en := L.en.reset } := by
        unfold hearT sayT; simp only [HT.out]; rfl
      rw [hT]
      exact LkPost.then HK2w.out ⟨rfl, ⟨_, _, _, _, _, _, _, h4⟩, hk4⟩ H.out.lt
    · go_wp2_with fail
      refine HON.out.mono ?_
      rintro e w3 ⟨rfl, rfl⟩
      go_wp2_with fail
      go_end0
      have hT : hearT L v k = sayT { L with S := hearS v k L.S L.G } (hearL v k L.S L.G) := by
        unfold hearT sayT; simp only [HT.out]; rfl
      rw [hT]
      exact HP.out
end Go.Proofs.YtamfjgioajmnpaaGreatDoor
namespace Go.Proofs.YtamfjgioajmnpaaGreatDoor
open Go.RowKit
set_option linter.unusedVariables false
set_option linter.unusedSimpArgs false

def subT (L : LkT) : LkT := { L with out := L.out ++ ([255, 250, 24] ++ (0 :: sB L.en.typ) ++ [255, 240]) }
set_option maxRecDepth 100000 in
set_option maxHeartbeats 6400000 in
theorem lsub_is {w : World} {b c g off : Nat} {F : Nat → Prop} {L : LkT} {kd v : Int} (h : LkAt w b F L) (hg : w.cell? ⟨g, off, none⟩ = some (.int .u8 1)) (hon : (L.S 0 24 == 1) = true) (hst : (L.en.st == 4) = false) (hty : (255 : Int) ∉ sB L.en.typ) (hsz : L.en.typ.size ≤ 1000) (hn : L.out.length ≤ 1000000000) (hgF : ¬ F g) :
    Calls Tryz.prog 139 #[.pointer (some ⟨b, 0, none⟩), .agg #[.int .i64 kd, .int .u8 v, .int .u8 24, .slice (some ⟨g, off, none⟩) 1 c, .bool false, .bool false]] w (LkPost w b F (subT L)) := by
  obtain ⟨i0, hi, hz0, hz1, hz2⟩ := info_parts info_u8
  obtain ⟨own, br, bo, be, bm, Ao, co, h⟩ := h
  have H := Lib.hid h
  have k1 := h.st.cell 1 (v := .pointer (some ⟨bo, 0, none⟩)) rfl
  have k2 := h.st.cell 2 (v := .pointer (some ⟨be, 0, none⟩)) rfl
  have k4 := h.st.cell 4 (v := .slice Ao L.out.length co) rfl
  have f4 := h.st.free 4
  have zb := h.st.lt
  obtain ⟨w0, hw0⟩ : ∃ w0, w.alloc (.cells #[.int .i64 kd, .int .u8 v, .int .u8 24, .slice (some ⟨g, off, none⟩) 1 c, .bool false, .bool false] 165) = w0 := ⟨_, rfl⟩
  have hu0 : Up w w0 := by rw [← hw0]; exact (Up.refl w).alloc _
  have sb : St w0 165 w.heap.size [.int .i64 kd, .int .u8 v, .int .u8 24, .slice (some ⟨g, off, none⟩) 1 c, .bool false, .bool false] := by rw [← hw0]; exact St.new w _ _ rfl
  have st0 := h.st.up hu0
  have m1 := st0.cell 1 (v := .pointer (some ⟨bo, 0, none⟩)) rfl
  have m2 := st0.cell 2 (v := .pointer (some ⟨be, 0, none⟩)) rfl
  have m4 := st0.cell 4 (v := .slice Ao L.out.length co) rfl
  have n4 := st0.free 4
  have zm := st0.lt
  obtain ⟨B, hB⟩ : ∃ B, w.heap.size = B := ⟨_, rfl⟩
  rw [hB] at sb
  have z2 := sb.cell 2 (v := .int .u8 24) rfl
  have z3 := sb.cell 3 (v := .slice (some ⟨g, off, none⟩) 1 c) rfl
  have z4 := sb.cell 4 (v := .bool false) rfl
  have z5 := sb.cell 5 (v := .bool false) rfl
  have zB := sb.lt
  have h0 : LkI w0 b F own L br bo be bm Ao co := h.keep (E := fun _ => False) (Keep.of_up hu0) (fun _ _ h => h)
  have hg0 : w0.cell? ⟨g, off, none⟩ = some (.int .u8 1) := ((hu0.at_ g (cell_lt hg)).1 off).trans hg
  have HHT := Lib.hid (hearType_is (w := w0.drew.drew) (c := c) (off := off) (h0.en.keep (D := fun _ => False) ((Keep.refl _ w0).drew.drew) (fun _ _ h => h)) hg0 hsz)
  have HON := Lib.hid (on_at (i' := 0) (o := 24) 0 24 (h0.ma.drew) h0.ok (by omega) (by omega) rfl rfl hon)
  have HU0 := Lib.hid hu0
  have H0 := Lib.hid h0
  have HG0 := Lib.hid hg0
  have HW0 := Lib.hid hw0
  have HB := Lib.hid hB
  have SB := Lib.hid sb
  clear h hu0 hw0 hB sb h0 hg0 st0 k1 k2 k4 f4
  go_enter Tryz.func139, Tryz.ntmps139
  go_wp2_with fail
  rw [HW0.out, HB.out]
  go_region_held_law (fun w' => w'.cell? ⟨b, 1, none⟩ = some (.pointer (some ⟨bo, 0, none⟩)) ∧ w'.cell? ⟨B, 2, none⟩ = some (.int .u8 24) ∧ w'.cell? ⟨B, 4, none⟩ = some (.bool false) ∧ w'.cell? ⟨B, 5, none⟩ = some (.bool false)) (first | exact ⟨m1, z2, z4, z5⟩ | go_keep) ((go_simp; go_at_call 34; refine HON.out.mono ?_; rintro e w1 ⟨rfl, rfl⟩))
  go_wp2_with fail
  go_region_held_law (fun w' => w'.cell? ⟨b, 2, none⟩ = some (.pointer (some ⟨be, 0, none⟩)) ∧ w'.cell? ⟨B, 2, none⟩ = some (.int .u8 24) ∧ w'.cell? ⟨B, 3, none⟩ = some (.slice (some ⟨g, off, none⟩) 1 c)) (first | exact ⟨m2, z2, z3⟩ | exact ⟨s0, s1, s2⟩ | go_keep) ((go_simp; go_at_call 176; refine HHT.out.mono ?_; rintro e w1 ⟨A2, c2, rfl, hr2, hu2⟩; obtain ⟨kc, kf⟩ := hu2.at_ b (show b < w0.drew.drew.heap.size from zm); obtain ⟨kx, -⟩ := hu2.at_ B (show B < w0.drew.drew.heap.size from zB); have s0 := (kc 2).trans m2; have s1 := (kx 2).trans z2; have s2 := (kx 3).trans z3; have s3 := (kc 4).trans m4; have s4 := (kf 4).trans n4; have zm1 : b < w1.heap.size := (by have h1 := hu2.size; have h2 : w0.heap.size ≤ w1.heap.size := h1; omega); have zB1 : B < w1.heap.size := (by have h1 := hu2.size; have h2 : w0.heap.size ≤ w1.heap.size := h1; omega); have HR2 := Lib.hid hr2; have HU2 := Lib.hid hu2; clear hr2 hu2 kc kf kx))
  obtain ⟨W1, hW1⟩ : ∃ W, W = w1 := ⟨_, rfl⟩
  have hu1 : Up w0 w1 := (((Up.refl w0).drew).drew).trans HU2.out
  have h1 : LkI w1 b F own L br bo be bm Ao co := H0.out.keep (E := fun _ => False) (Keep.of_up hu1) (fun _ _ h => h)
  have hbt : Bt w1 (fun k => w0.heap.size ≤ k) A2 (1 + L.en.typ.size) c2 (0 :: sB L.en.typ) := by
    have := Bt.of_row (l := 0 :: sB L.en.typ) HR2.out (BL.cons (by omega) (sB_bl _))
    exact this.mono (fun g hg => hg)
  have h255 : (255 : Int) ∉ (0 :: sB L.en.typ) := by
    intro hm
    rcases List.mem_cons.1 hm with hm | hm
    · cases hm
    · exact hty hm
  have hlen : (1 + L.en.typ.size : Int) > 0 := by omega
  have HSB := Lib.hid (subBytes_is (o := 24) (hbt.up ((Up.refl w1).drew)) h255 (by omega))
  have hesc : escT (0 :: sB L.en.typ) = 0 :: sB L.en.typ := escT_none h255
  rw [hesc] at HSB
  obtain ⟨M, hM⟩ : ∃ M, [255, 250, 24] ++ (0 :: sB L.en.typ) ++ [255, 240] = M := ⟨_, rfl⟩
  rw [hM] at HSB
  have hMl : M.length = L.en.typ.size + 6 := by rw [← hM]; simp [sB_len]
  have hMb : BL M := by rw [← hM]; exact ((BL.cons (by omega) (BL.cons (by omega) (BL.cons (by omega) BL.nil))).app (BL.cons (by omega) (sB_bl _))).app (BL.cons (by omega) (BL.cons (by omega) BL.nil))
  have hST := Lib.hid (show subT L = { L with out := L.out ++ M } by unfold subT; rw [hM])
  have HMB := Lib.hid hMb
  have H1 := Lib.hid h1
  have HU1 := Lib.hid hu1
  have hq1 : L.out.length + M.length ≤ maxLen := by simp [maxLen]; omega
  have hq2 : (L.out.length + M.length) * 1 ≤ 140737488355328 := by omega
  have hty2 : ((1 + L.en.typ.size : Nat) : Int) ≤ 2000 := by omega
  obtain ⟨ts, hts⟩ : ∃ ts, 1 + L.en.typ.size = ts := ⟨_, rfl⟩
  rw [hts] at hbt hty2 HSB
  have hts0 : (0 : Int) < (ts : Int) := by omega
  have HTS := Lib.hid hts
  clear hu1 h1 hbt h255 hlen hesc hM hMl hMb hW1 hts
  simp only [HTS.out]
  clear hty hsz
  go_wp2_with fail
  go_region_law (first | (go_simp; go_at_call 54; refine HSB.out.mono ?_; rintro e w3 ⟨A3, c3, rfl, hr3, hu3⟩; obtain ⟨kc, kf⟩ := hu3.at_ b (show b < w1.drew.heap.size from zm1); obtain ⟨kx, -⟩ := hu3.at_ B (show B < w1.drew.heap.size from zB1); have t3 := (kc 4).trans s3; have t4 := (kf 4).trans s4; have t1 := (kx 2).trans s1; have HR3 := Lib.hid hr3; have HU3 := Lib.hid hu3; have zm3 : b < w3.heap.size := (by have h1 := hu3.size; have h2 : w1.heap.size ≤ w3.heap.size := h1; omega); have zB3 : B < w3.heap.size := (by have h1 := hu3.size; have h2 : w1.heap.size ≤ w3.heap.size := h1; omega); clear hr3 hu3 kc kf kx) | (refine step_row (cx := c3) rfl 30 rfl 5 i0 _ 1 1 Tryz.underlying30 hi hz0 hz1 hz2 rfl (by decide) (by simp [Act.eval, Act.put]) ((H1.out.out.up ((Up.refl w1).drew)).up HU3.out) (by simp [Act.eval, Act.put]) HR3.out.reads (one_bs M) hq1 hq2 ?_; intro A4 c4 w4 hr4 hg4 hb4; have st4 : St w4 187 b (lkVals L br bo be bm Ao co) := (((H1.out.st.drew).up HU3.out)).grown hg4 (H1.out.out.ne H1.out.st ne_lk8); have d42 := st4.cell 2 (v := .pointer (some ⟨be, 0, none⟩)) rfl; have d44 := st4.cell 4 (v := .slice Ao L.out.length co) rfl; have e44 := st4.free 4; have zb4 := st4.lt; obtain ⟨ky, -⟩ := grown_at hg4 B zB3 (fun e => (by have h9 := H.out.out.lt e; have h8 := HB.out; omega)); have tB := (ky 2).trans t1; have ST4 := Lib.hid st4; have HR4 := Lib.hid hr4; have HG4 := Lib.hid hg4; clear st4 hr4 hg4 hb4 ky))
  all_goals
    have hu3 : Up w1 w3 := ((Up.refl w1).drew).trans HU3.out
    have hk : Keep (Cp F own 0) w1 (w4.setCell ⟨b, 4, none⟩ (.slice A4 (L.out.length + M.length) c4)) := ((Keep.of_up hu3).trans (Keep.grown HG4.out (fun g hg => H1.out.out.in_ g hg))).setCell (p := ⟨b, 4, none⟩) (.inl H1.out.fb) _
    obtain ⟨h5, hk5⟩ := H1.out.put_own (L' := { L with out := L.out ++ M }) (Ao' := A4) (co' := c4) hk (by simpa [lkVals] using ST4.out.set 4 (.slice A4 (L.out.length + M.length) c4)) (by
      simp only [List.length_append, bs_app]
      exact (HR4.out.struct ST4.out ne_lk8 4 _).gr (fun g hg => hg.imp id (fun e => by rw [e]; exact hu3.size))) (H1.out.bo.app HMB.out) rfl rfl rfl rfl rfl
    have HN := Lib.hid (nstate_is h5.en)
    have HK := Lib.hid ((Keep.of_up (E := F) (HU0.out.trans HU1.out)).trans hk5)
    have q2 := h5.st.cell 2 (v := .pointer (some ⟨be, 0, none⟩)) rfl
    have zq := h5.st.lt
    have H5 := Lib.hid h5
    clear h5 hk5 hk hu3
    go_wp2_with fail
    refine HN.out.mono ?_
    rintro e w5 ⟨rfl, rfl⟩
    go_wp2_with fail
    go_end0
    rw [hST.out]
    refine ⟨rfl, LkAt.wide ⟨_, _, _, _, _, _, _, H5.out⟩ (fun k hk => hk.imp id (fun h => ⟨?_, h.2⟩)) (Gr.lt H.out.lt HK.out.size), HK.out⟩
    have h1 := HU0.out.size
    have h2 := HU1.out.size
    omega
end Go.Proofs.YtamfjgioajmnpaaGreatDoor
namespace Go.Proofs.YtamfjgioajmnpaaGreatDoor
open Go.RowKit
set_option linter.unusedVariables false
set_option linter.unusedSimpArgs false

/-- an event of a link, without a header -/
def evVal (k : Int) (A : Option Addr) (n c : Nat) : Value := .agg #[.int .i64 k, .slice A n c, .int .u8 0, .int .u8 0, .int .u8 0, .int .u16 0, .bool false]
def evCells (k : Int) (A : Option Addr) (n c : Nat) : List Value := [.int .i64 k, .slice A n c, .int .u8 0, .int .u8 0, .int .u8 0, .int .u16 0, .bool false]
def TkPost (w : World) (b : Nat) (F : Nat → Prop) (L : LkT) (ev : Value) (ok : Bool) (e : Ending) (w' : World) : Prop :=
  e = .returned (.tuple #[ev, .bool ok]) ∧ LkAt w' b (Gr F w w') L ∧ Keep F w w'
theorem LkAt.up {w w' : World} {b : Nat} {F : Nat → Prop} {L : LkT} (h : LkAt w b F L) (hu : Up w w') : LkAt w' b F L := h.keep (E := fun _ => False) (Keep.of_up hu) (fun _ _ h => h)
/-- the end of take: the zero event is laid -/
theorem take_end {w W0 w1 w2 w3 : World} {b : Nat} {F : Nat → Prop} {L : LkT} (hu : Up w W0) (hF : ∀ k, F k → k < w.heap.size) (hk1 : Keep F W0 w1) (h2 : LkPost w1 b (Gr F W0 w1) L (.returned (.tuple #[])) w2) {E : Nat → Prop} (hk3 : Keep E w2 w3) (hE : ∀ k, E k → w.heap.size ≤ k ∧ k < W0.heap.size) : LkAt w3 b (Gr F w w3) L ∧ Keep F w w3 := by
  obtain ⟨-, hl, hk2⟩ := h2
  have z0 := hu.size
  have z1 := hk1.size
  have z2 := hk2.size
  have z3 := hk3.size
  have hk : Keep F W0 w2 := hk1.gr hk2
  have hg : ∀ k, Gr (Gr F W0 w1) w1 w2 k → Gr F W0 w2 k := Gr.trans z1 z2
  have hl2 : LkAt w2 b (Gr F W0 w2) L := hl.wide hg (Gr.lt (fun k hk => by have := hF k hk; omega) hk.size)
  have hl3 : LkAt w3 b (Gr F W0 w2) L := hl2.keep hk3 (fun k hk he => by
    have := hE k he
    rcases hk with hk | hk
    · have := hF k hk; omega
    · omega)
  have hkw : Keep F w w2 := (Keep.of_up hu).trans hk
  have hkf : Keep F w w3 := hkw.gr (hk3.mono fun k hk => .inr ⟨(hE k hk).1, by have := (hE k hk).2; omega⟩)
  exact ⟨hl3.wide (fun k hk => hk.imp id (fun h => ⟨by omega, by omega⟩)) (Gr.lt hF hkf.size), hkf⟩
def zworld (w : World) (B : Nat) : World := ((((((w.setCell ⟨B, 0, none⟩ (.int .i64 0)).setCell ⟨B, 1, none⟩ (.slice none 0 0)).setCell ⟨B, 2, none⟩ (.int .u8 0)).setCell ⟨B, 3, none⟩ (.int .u8 0)).setCell ⟨B, 4, none⟩ (.int .u8 0)).setCell ⟨B, 5, none⟩ (.int .u16 0)).setCell ⟨B, 6, none⟩ (.bool false)
theorem zkeep (w : World) (B : Nat) : Keep (fun k => k = B) w (zworld w B) := (((((((Keep.refl (fun k => k = B) w).setCell (p := ⟨B, 0, none⟩) (.inl rfl) _).setCell (p := ⟨B, 1, none⟩) (.inl rfl) _).setCell (p := ⟨B, 2, none⟩) (.inl rfl) _).setCell (p := ⟨B, 3, none⟩) (.inl rfl) _).setCell (p := ⟨B, 4, none⟩) (.inl rfl) _).setCell (p := ⟨B, 5, none⟩) (.inl rfl) _).setCell (p := ⟨B, 6, none⟩) (.inl rfl) _
set_option maxRecDepth 100000 in
set_option maxHeartbeats 6400000 in
theorem take_opt {w : World} {b k : Nat} {F : Nat → Prop} {L : LkT} {v o : Int} {Ae : Option Addr} {ne ce : Nat} {t1 t2 : Bool} (h : LkAt w b F L) (hv : 0 ≤ v ∧ v ≤ 255) (hk : k < 256) (ho : o = (k : Int)) (hn : L.out.length ≤ 1000000000) :
    Calls Tryz.prog 103 #[.pointer (some ⟨b, 0, none⟩), .agg #[.int .i64 2, .int .u8 v, .int .u8 o, .slice Ae ne ce, .bool t1, .bool t2]] w (TkPost w b F (settleT (hearT L v k)) (evVal 0 none 0 0) false) := by
  subst ho
  have H := Lib.hid h
  obtain ⟨W0, hW0⟩ : ∃ W0, (w.alloc (.cells #[.int .i64 2, .int .u8 v, .int .u8 (k : Int), .slice Ae ne ce, .bool t1, .bool t2] 165)).alloc (.cells #[.int .i64 0, .slice none 0 0, .int .u8 0, .int .u8 0, .int .u8 0, .int .u16 0, .bool false] 132) = W0 := ⟨_, rfl⟩
  have hu0 : Up w W0 := by rw [← hW0]; exact ((Up.refl w).alloc _).alloc _
  have s4 : St W0 132 (w.heap.size + 1) (evCells 0 none 0 0) := by
    rw [← hW0]
    have := St.new (w.alloc (.cells #[.int .i64 2, .int .u8 v, .int .u8 (k : Int), .slice Ae ne ce, .bool t1, .bool t2] 165)) 132 (evCells 0 none 0 0) rfl
    rwa [World.size_alloc] at this
  have hz0 : W0.heap.size = w.heap.size + 2 := by rw [← hW0]; simp
  have HH := Lib.hid (lhear_is (kd := 2) (Ae := Ae) (ne := ne) (ce := ce) (t1 := t1) (t2 := t2) (h.up hu0) hv hk rfl hn)
  have HU0 := Lib.hid hu0
  have HW0 := Lib.hid hW0
  have HZ0 := Lib.hid hz0
  have S4 := Lib.hid s4
  clear h hu0 hW0 hz0 s4
  go_enter Tryz.func103, Tryz.ntmps103
  go_wp2_with fail
  rw [HW0.out]
  refine HH.out.mono ?_
  rintro e w1 ⟨rfl, hl1, hk1⟩
  have HSE := Lib.hid (settle_is hl1)
  have s41 := S4.out.keep hk1 (fun hF => by have := H.out.lt _ hF; omega)
  have HK1 := Lib.hid hk1
  have S41 := Lib.hid s41
  clear hl1 hk1 s41
  go_wp2_with fail
  refine HSE.out.mono ?_
  rintro e w2 ⟨rfl, hl2, hk2⟩
  have s42 := S41.out.keep hk2 (fun hF => by
    rcases hF with hF | hF
    · have := H.out.lt _ hF; omega
    · have := HZ0.out; omega)
  have d0 := s42.cell 0 (v := .int .i64 0) rfl
  have d1 := s42.cell 1 (v := .slice none 0 0) rfl
  have d2 := s42.cell 2 (v := .int .u8 0) rfl
  have d3 := s42.cell 3 (v := .int .u8 0) rfl
  have d4 := s42.cell 4 (v := .int .u8 0) rfl
  have d5 := s42.cell 5 (v := .int .u16 0) rfl
  have d6 := s42.cell 6 (v := .bool false) rfl
  have e0 := s42.free 0
  have e1 := s42.free 1
  have e2 := s42.free 2
  have e3 := s42.free 3
  have e4 := s42.free 4
  have e5 := s42.free 5
  have e6 := s42.free 6
  have z42 := s42.lt
  have HP2 := Lib.hid (show LkPost w1 b (Gr F W0 w1) (settleT (hearT L v k)) (.returned (.tuple #[])) w2 from ⟨rfl, hl2, hk2⟩)
  have S42 := Lib.hid s42
  clear hl2 hk2 s42
  go_wp2_with fail
  have s5 := ((((((S42.out.set 0 (.int .i64 0)).set 1 (.slice none 0 0)).set 2 (.int .u8 0)).set 3 (.int .u8 0)).set 4 (.int .u8 0)).set 5 (.int .u16 0)).set 6 (.bool false)
  have q0 := s5.cell 0 (v := .int .i64 0) rfl
  have q1 := s5.cell 1 (v := .slice none 0 0) rfl
  have q2 := s5.cell 2 (v := .int .u8 0) rfl
  have q3 := s5.cell 3 (v := .int .u8 0) rfl
  have q4 := s5.cell 4 (v := .int .u8 0) rfl
  have q5 := s5.cell 5 (v := .int .u16 0) rfl
  have q6 := s5.cell 6 (v := .bool false) rfl
  have hk3 := zkeep w2 (w.heap.size + 1)
  obtain ⟨W3, hW3⟩ : ∃ W3, zworld w2 (w.heap.size + 1) = W3 := ⟨_, rfl⟩
  rw [hW3] at hk3
  simp only [zworld] at hW3
  rw [hW3] at q0 q1 q2 q3 q4 q5 q6 ⊢
  refine bodyPost_ret (v := .tuple #[evVal 0 none 0 0, .bool false]) (by simp [results, Tryz.results103, go_sem, q0, q1, q2, q3, q4, q5, q6, evVal]) rfl ⟨rfl, ?_⟩
  exact take_end HU0.out H.out.lt HK1.out HP2.out hk3 (fun k hk => by have := HZ0.out; omega)
set_option maxRecDepth 100000 in
set_option maxHeartbeats 6400000 in
theorem take_sub {w : World} {b g off ce : Nat} {F : Nat → Prop} {L : LkT} {v : Int} (h : LkAt w b F L) (hg : w.cell? ⟨g, off, none⟩ = some (.int .u8 1)) (hon : (L.S 0 24 == 1) = true) (hst : (L.en.st == 4) = false) (hty : (255 : Int) ∉ sB L.en.typ) (hsz : L.en.typ.size ≤ 1000) (hn : L.out.length ≤ 1000000000) (hgF : ¬ F g) :
    Calls Tryz.prog 103 #[.pointer (some ⟨b, 0, none⟩), .agg #[.int .i64 3, .int .u8 v, .int .u8 24, .slice (some ⟨g, off, none⟩) 1 ce, .bool false, .bool false]] w (TkPost w b F (settleT (subT L)) (evVal 0 none 0 0) false) := by
  have H := Lib.hid h
  obtain ⟨W0, hW0⟩ : ∃ W0, (w.alloc (.cells #[.int .i64 3, .int .u8 v, .int .u8 24, .slice (some ⟨g, off, none⟩) 1 ce, .bool false, .bool false] 165)).alloc (.cells #[.int .i64 0, .slice none 0 0, .int .u8 0, .int .u8 0, .int .u8 0, .int .u16 0, .bool false] 132) = W0 := ⟨_, rfl⟩
  have hu0 : Up w W0 := by rw [← hW0]; exact ((Up.refl w).alloc _).alloc _
  have s4 : St W0 132 (w.heap.size + 1) (evCells 0 none 0 0) := by
    rw [← hW0]
    have := St.new (w.alloc (.cells #[.int .i64 3, .int .u8 v, .int .u8 24, .slice (some ⟨g, off, none⟩) 1 ce, .bool false, .bool false] 165)) 132 (evCells 0 none 0 0) rfl
    rwa [World.size_alloc] at this
  have hz0 : W0.heap.size = w.heap.size + 2 := by rw [← hW0]; simp
  have HH := Lib.hid (lsub_is (kd := 3) (v := v) (c := ce) (h.up hu0) (((hu0.at_ g (cell_lt hg)).1 off).trans hg) hon hst hty hsz hn hgF)
  have HU0 := Lib.hid hu0
  have HW0 := Lib.hid hW0
  have HZ0 := Lib.hid hz0
  have S4 := Lib.hid s4
  clear h hu0 hW0 hz0 s4 hg hon hst hty hsz
  go_enter Tryz.func103, Tryz.ntmps103
  go_wp2_with fail
  rw [HW0.out]
  refine HH.out.mono ?_
  rintro e w1 ⟨rfl, hl1, hk1⟩
  have HSE := Lib.hid (settle_is hl1)
  have s41 := S4.out.keep hk1 (fun hF => by have := H.out.lt _ hF; omega)
  have HK1 := Lib.hid hk1
  have S41 := Lib.hid s41
  clear hl1 hk1 s41
  go_wp2_with fail
  refine HSE.out.mono ?_
  rintro e w2 ⟨rfl, hl2, hk2⟩
  have s42 := S41.out.keep hk2 (fun hF => by
    rcases hF with hF | hF
    · have := H.out.lt _ hF; omega
    · have := HZ0.out; omega)
  have d0 := s42.cell 0 (v := .int .i64 0) rfl
  have d1 := s42.cell 1 (v := .slice none 0 0) rfl
  have d2 := s42.cell 2 (v := .int .u8 0) rfl
  have d3 := s42.cell 3 (v := .int .u8 0) rfl
  have d4 := s42.cell 4 (v := .int .u8 0) rfl
  have d5 := s42.cell 5 (v := .int .u16 0) rfl
  have d6 := s42.cell 6 (v := .bool false) rfl
  have e0 := s42.free 0
  have e1 := s42.free 1
  have e2 := s42.free 2
  have e3 := s42.free 3
  have e4 := s42.free 4
  have e5 := s42.free 5
  have e6 := s42.free 6
  have z42 := s42.lt
  have HP2 := Lib.hid (show LkPost w1 b (Gr F W0 w1) (settleT (subT L)) (.returned (.tuple #[])) w2 from ⟨rfl, hl2, hk2⟩)
  have S42 := Lib.hid s42
  clear hl2 hk2 s42
  go_wp2_with fail
  have s5 := ((((((S42.out.set 0 (.int .i64 0)).set 1 (.slice none 0 0)).set 2 (.int .u8 0)).set 3 (.int .u8 0)).set 4 (.int .u8 0)).set 5 (.int .u16 0)).set 6 (.bool false)
  have q0 := s5.cell 0 (v := .int .i64 0) rfl
  have q1 := s5.cell 1 (v := .slice none 0 0) rfl
  have q2 := s5.cell 2 (v := .int .u8 0) rfl
  have q3 := s5.cell 3 (v := .int .u8 0) rfl
  have q4 := s5.cell 4 (v := .int .u8 0) rfl
  have q5 := s5.cell 5 (v := .int .u16 0) rfl
  have q6 := s5.cell 6 (v := .bool false) rfl
  have hk3 := zkeep w2 (w.heap.size + 1)
  obtain ⟨W3, hW3⟩ : ∃ W3, zworld w2 (w.heap.size + 1) = W3 := ⟨_, rfl⟩
  rw [hW3] at hk3
  simp only [zworld] at hW3
  rw [hW3] at q0 q1 q2 q3 q4 q5 q6 ⊢
  refine bodyPost_ret (v := .tuple #[evVal 0 none 0 0, .bool false]) (by simp [results, Tryz.results103, go_sem, q0, q1, q2, q3, q4, q5, q6, evVal]) rfl ⟨rfl, ?_⟩
  exact take_end HU0.out H.out.lt HK1.out HP2.out hk3 (fun k hk => by have := HZ0.out; omega)
set_option maxRecDepth 100000 in
set_option maxHeartbeats 6400000 in
theorem take_data {w : World} {b ne ce : Nat} {F G : Nat → Prop} {L : LkT} {v o : Int} {Ae : Option Addr} {p : List Int} {t1 t2 : Bool} (h : LkAt w b F L) (hp : Bt w G Ae ne ce p) (hm : (L.mode == 0) = false) (hn : ne ≤ 1000000000) :
    Calls Tryz.prog 103 #[.pointer (some ⟨b, 0, none⟩), .agg #[.int .i64 0, .int .u8 v, .int .u8 o, .slice Ae ne ce, .bool t1, .bool t2]] w (TkPost w b F (settleT { L with mkr := addT L.mkr p }) (evVal 0 none 0 0) false) := by
  have H := Lib.hid h
  obtain ⟨W0, hW0⟩ : ∃ W0, (w.alloc (.cells #[.int .i64 0, .int .u8 v, .int .u8 o, .slice Ae ne ce, .bool t1, .bool t2] 165)).alloc (.cells #[.int .i64 0, .slice none 0 0, .int .u8 0, .int .u8 0, .int .u8 0, .int .u16 0, .bool false] 132) = W0 := ⟨_, rfl⟩
  have hu0 : Up w W0 := by rw [← hW0]; exact ((Up.refl w).alloc _).alloc _
  have s4 : St W0 132 (w.heap.size + 1) (evCells 0 none 0 0) := by
    rw [← hW0]
    have := St.new (w.alloc (.cells #[.int .i64 0, .int .u8 v, .int .u8 o, .slice Ae ne ce, .bool t1, .bool t2] 165)) 132 (evCells 0 none 0 0) rfl
    rwa [World.size_alloc] at this
  have hz0 : W0.heap.size = w.heap.size + 2 := by rw [← hW0]; simp
  obtain ⟨own, br, bo, be, bm, Ao, co, hi0⟩ := h
  have k6 := hi0.st.cell 6 (v := .int .i64 L.mode) rfl
  have zb := hi0.st.lt
  have hi : LkI W0 b F own L br bo be bm Ao co := hi0.keep (E := fun _ => False) (Keep.of_up hu0) (fun _ _ h => h)
  have m3 := hi.st.cell 3 (v := .pointer (some ⟨bm, 0, none⟩)) rfl
  have m6 := hi.st.cell 6 (v := .int .i64 L.mode) rfl
  have zm := hi.st.lt
  have s3 : St W0 165 w.heap.size [.int .i64 0, .int .u8 v, .int .u8 o, .slice Ae ne ce, .bool t1, .bool t2] := by
    rw [← hW0]
    exact (St.new w 165 [.int .i64 0, .int .u8 v, .int .u8 o, .slice Ae ne ce, .bool t1, .bool t2] rfl).alloc _
  obtain ⟨B, hB⟩ : ∃ B, w.heap.size = B := ⟨_, rfl⟩
  have z0 := s3.cell 0 (v := .int .i64 0) rfl
  have z3 := s3.cell 3 (v := .slice Ae ne ce) rfl
  have zB := s3.lt
  have HA := Lib.hid (madd_is (w := W0.drew) (hi.mkr.keep (E := fun _ => False) ((Keep.refl _ W0).drew) (fun _ _ h => h)) ((hp.up hu0).up ((Up.refl W0).drew)) hn)
  have HI := Lib.hid hi
  rw [hB] at z0 z3 zB s4
  have HB := Lib.hid hB
  have HU0 := Lib.hid hu0
  have HW0 := Lib.hid hW0
  have HZ0 := Lib.hid hz0
  have S4 := Lib.hid s4
  clear hi0 hu0 hW0 hz0 s4 hi s3 hB hp
  go_enter Tryz.func103, Tryz.ntmps103
  go_wp2_with fail
  rw [HW0.out, HB.out]
  go_region_held_law (fun w' => w'.cell? ⟨b, 3, none⟩ = some (.pointer (some ⟨bm, 0, none⟩)) ∧ w'.cell? ⟨B, 3, none⟩ = some (.slice Ae ne ce)) (first | exact ⟨m3, z3⟩ | exact ⟨r0, r1⟩ | go_keep) ((go_simp; go_at_call 140; refine HA.out.mono ?_; rintro e w1 ⟨rfl, hm1, hk1⟩; obtain ⟨kc, kf⟩ := hk1.at_ b (show b < W0.drew.heap.size from zm) (fun e => (by have e1 := e.2; have e2 := HI.out.fb.2; rw [e2] at e1; cases e1)); obtain ⟨kx, -⟩ := hk1.at_ B (show B < W0.drew.heap.size from zB) (fun e => (by have h1 := H.out.lt _ e.1; have h2 := HB.out; omega)); have r0 := (kc 3).trans m3; have r1 := (kx 3).trans z3; have HM1 := Lib.hid hm1; have HK1' := Lib.hid hk1; clear hm1 hk1 kc kf kx))
  obtain ⟨hl1, hk1⟩ := HI.out.put_mk (w' := w1) ((Keep.refl _ W0).drew.trans HK1'.out) HM1.out
  replace hl1 : LkAt w1 b (Gr F W0 w1) { L with mkr := addT L.mkr p } := ⟨_, _, _, _, _, _, _, hl1⟩
  have HSE := Lib.hid (settle_is hl1)
  have s41 := S4.out.keep hk1 (fun hF => by have := H.out.lt _ hF; have := HB.out; omega)
  have HK1 := Lib.hid hk1
  have S41 := Lib.hid s41
  clear hl1 hk1 s41
  go_wp2_with fail
  refine HSE.out.mono ?_
  rintro e w2 ⟨rfl, hl2, hk2⟩
  have s42 := S41.out.keep hk2 (fun hF => by
    rcases hF with hF | hF
    · have := H.out.lt _ hF; have := HB.out; omega
    · have := HZ0.out; have := HB.out; omega)
  have d0 := s42.cell 0 (v := .int .i64 0) rfl
  have d1 := s42.cell 1 (v := .slice none 0 0) rfl
  have d2 := s42.cell 2 (v := .int .u8 0) rfl
  have d3 := s42.cell 3 (v := .int .u8 0) rfl
  have d4 := s42.cell 4 (v := .int .u8 0) rfl
  have d5 := s42.cell 5 (v := .int .u16 0) rfl
  have d6 := s42.cell 6 (v := .bool false) rfl
  have e0 := s42.free 0
  have e1 := s42.free 1
  have e2 := s42.free 2
  have e3 := s42.free 3
  have e4 := s42.free 4
  have e5 := s42.free 5
  have e6 := s42.free 6
  have z42 := s42.lt
  have HP2 := Lib.hid (show LkPost w1 b (Gr F W0 w1) (settleT { L with mkr := addT L.mkr p }) (.returned (.tuple #[])) w2 from ⟨rfl, hl2, hk2⟩)
  have S42 := Lib.hid s42
  clear hl2 hk2 s42
  go_wp2_with fail
  have s5 := ((((((S42.out.set 0 (.int .i64 0)).set 1 (.slice none 0 0)).set 2 (.int .u8 0)).set 3 (.int .u8 0)).set 4 (.int .u8 0)).set 5 (.int .u16 0)).set 6 (.bool false)
  have q0 := s5.cell 0 (v := .int .i64 0) rfl
  have q1 := s5.cell 1 (v := .slice none 0 0) rfl
  have q2 := s5.cell 2 (v := .int .u8 0) rfl
  have q3 := s5.cell 3 (v := .int .u8 0) rfl
  have q4 := s5.cell 4 (v := .int .u8 0) rfl
  have q5 := s5.cell 5 (v := .int .u16 0) rfl
  have q6 := s5.cell 6 (v := .bool false) rfl
  have hk3 := zkeep w2 (B + 1)
  obtain ⟨W3, hW3⟩ : ∃ W3, zworld w2 (B + 1) = W3 := ⟨_, rfl⟩
  rw [hW3] at hk3
  simp only [zworld] at hW3
  rw [hW3] at q0 q1 q2 q3 q4 q5 q6 ⊢
  refine bodyPost_ret (v := .tuple #[evVal 0 none 0 0, .bool false]) (by simp [results, Tryz.results103, go_sem, q0, q1, q2, q3, q4, q5, q6, evVal]) rfl ⟨rfl, ?_⟩
  exact take_end HU0.out H.out.lt HK1.out HP2.out hk3 (fun k hk => by have := HZ0.out; have := HB.out; omega)
end Go.Proofs.YtamfjgioajmnpaaGreatDoor
