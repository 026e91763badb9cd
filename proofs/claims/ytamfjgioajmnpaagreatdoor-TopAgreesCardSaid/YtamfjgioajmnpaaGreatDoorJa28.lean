/-
The reader's take, Feed and NewReader. Conditions: how it lies, that what comes is short.
telnet's Escape where no byte is 255, Say, SubBytes; record's Bytes: what they hand over is new. Conditions: the slices' own reach.
-/
import Derived.Test.YtamfjgioajmnpaaGreatDoorJa27
import Derived.Test.YtamfjgioajmnpaaGreatDoorJa2
import Derived.Test.YtamfjgioajmnpaaGreatDoorJa25
import Derived.Deep.DeepMust
import Derived.Shelf.Bytes.SlCountOne
namespace Go.Proofs.YtamfjgioajmnpaaGreatDoor
open Go.RowKit
set_option linter.unusedVariables false
set_option linter.unusedSimpArgs false

theorem endT_out (R : RdT) (br : Bool) : (endT R br).out.length ≤ R.out.length + 2 := by
  have := flushT_out R
  unfold endT tellT
  simp
  omega
theorem endT_data (R : RdT) (br : Bool) : (endT R br).data = [] := rfl
set_option maxRecDepth 100000 in
set_option maxHeartbeats 6400000 in
theorem rtake_is {w : World} {b : Nat} {F : Nat → Prop} {R : RdT} (x : Int) (hx : 0 ≤ x ∧ x ≤ 255) (h : RdAt w b F R) (hn : R.out.length ≤ 199990) (hm : R.data.length ≤ 200000) (hs : R.sub.length ≤ 65536) :
    Calls Tryz.prog 136 #[.pointer (some ⟨b, 0, none⟩), .int .u8 x] w (RdPost w b F (takeT R x)) := by
  obtain ⟨i0, hi, hz0, hz1, hz2⟩ := info_parts info_u8
  have HA := Lib.hid h
  obtain ⟨Ad, cd, As, cs, Ao, co, xs, h, hne⟩ := h
  have H := Lib.hid h
  have HN := Lib.hid hne
  have c0 := h.st.cell 0 (v := .int .i64 R.st) rfl
  have c1 := h.st.cell 1 (v := .int .u8 R.verb) rfl
  have c2 := h.st.cell 2 (v := .int .u8 R.opt) rfl
  have c3 := h.st.cell 3 (v := .slice Ad R.data.length cd) rfl
  have f0 := h.st.free 0
  have f2 := h.st.free 2
  have f3 := h.st.free 3
  have zb := h.st.lt
  have HCM := Lib.hid (command_is x hx HA.out (by omega) hm)
  have HKP := Lib.hid (keep_is (x := x) HA.out hx hs)
  have HE0 := Lib.hid (end_is false HA.out (by omega))
  have HE1 := Lib.hid (end_is true HA.out (by omega))
  have HTL := Lib.hid (tell_is ⟨2, R.verb, x, none, 0, [], false, false⟩ h (by omega) (.inl ⟨rfl, rfl, rfl⟩))
  have HNF := Lib.hid (NeS.fl h hne (x := ⟨2, R.verb, x, none, 0, [], false, false⟩) rfl)
  have touch : ∀ v : Int, RdPost w b F { R with st := v } (.returned (.tuple #[])) (w.setCell ⟨b, 0, none⟩ (.int .i64 v)) := fun v => by
    have hk : Keep (fun k => k = b) w (w.setCell ⟨b, 0, none⟩ (.int .i64 v)) := (Keep.refl (fun k => k = b) w).setCell (p := ⟨b, 0, none⟩) (.inl rfl) _
    exact ⟨rfl, ⟨Ad, cd, As, cs, Ao, co, xs, H.out.touch hk (H.out.st.set 0 _) rfl rfl rfl, HN.out⟩, hk.mono (fun k h => by rw [h]; exact H.out.fb)⟩
  have HTO := Lib.hid touch
  clear h hne touch
  by_cases h1 : R.st = 1
  · have HT := Lib.hid (show takeT R x = cmdT R x by unfold takeT; rw [if_pos h1])
    have e1 : (R.st == 1) = true := by simpa using h1
    clear h1
    go_enter Tryz.func136, Tryz.ntmps136
    go_wp2_with (go_at_call 170; refine HCM.out.mono ?_; rintro e w1 ⟨rfl, hp2, hp3⟩)
    rw [HT.out]
    go_end0
    exact ⟨rfl, hp2, hp3⟩
  have e1 : (R.st == 1) = false := by simpa using h1
  by_cases h2 : R.st = 2
  · have HT := Lib.hid (show takeT R x = tellT R ⟨2, R.verb, x, [], false, false⟩ by unfold takeT; rw [if_neg h1, if_pos h2])
    have e2 : (R.st == 2) = true := by simpa using h2
    clear h1 h2
    go_enter Tryz.func136, Tryz.ntmps136
    go_wp2_with (go_at_call 171; refine HTL.out.mono ?_; rintro e w1 ⟨rfl, ⟨Ao1, co1, h1⟩, hk1⟩)
    rw [HT.out]
    go_end0
    exact ⟨rfl, ⟨_, _, _, _, _, _, _, h1, HNF.out⟩, hk1⟩
  have e2 : (R.st == 2) = false := by simpa using h2
  by_cases h3 : R.st = 3
  · have HT := Lib.hid (show takeT R x = { R with opt := x, st := 4 } by unfold takeT; rw [if_neg h1, if_neg h2, if_pos h3])
    have e3 : (R.st == 3) = true := by simpa using h3
    clear h1 h2 h3
    go_enter Tryz.func136, Tryz.ntmps136
    go_wp2
    rw [HT.out]
    go_end0
    have hk : Keep (fun k => k = b) w ((w.setCell ⟨b, 2, none⟩ (.int .u8 x)).setCell ⟨b, 0, none⟩ (.int .i64 4)) := ((Keep.refl (fun k => k = b) w).setCell (p := ⟨b, 2, none⟩) (.inl rfl) _).setCell (p := ⟨b, 0, none⟩) (.inl rfl) _
    exact ⟨rfl, ⟨Ad, cd, As, cs, Ao, co, xs, H.out.touch hk ((H.out.st.set 2 _).set 0 _) rfl rfl rfl, HN.out⟩, hk.mono (fun k h => by rw [h]; exact H.out.fb)⟩
  have e3 : (R.st == 3) = false := by simpa using h3
  by_cases h4 : R.st = 4
  · have e4 : (R.st == 4) = true := by simpa using h4
    by_cases hx2 : x = 255
    · have HT := Lib.hid (show takeT R x = { R with st := 5 } by unfold takeT; rw [if_neg h1, if_neg h2, if_neg h3, if_pos h4, if_pos hx2])
      have ex : (x == 255) = true := by simpa using hx2
      clear h1 h2 h3 h4 hx2
      go_enter Tryz.func136, Tryz.ntmps136
      go_wp2
      rw [HT.out]
      go_end0
      exact HTO.out 5
    · have HT := Lib.hid (show takeT R x = keepT R x by unfold takeT; rw [if_neg h1, if_neg h2, if_neg h3, if_pos h4, if_neg hx2])
      have ex : (x == 255) = false := by simpa using hx2
      clear h1 h2 h3 h4 hx2
      go_enter Tryz.func136, Tryz.ntmps136
      go_wp2_with (go_at_call 172; refine HKP.out.mono ?_; rintro e w1 ⟨rfl, hp2, hp3⟩)
      rw [HT.out]
      go_end0
      exact ⟨rfl, hp2, hp3⟩
  have e4 : (R.st == 4) = false := by simpa using h4
  by_cases h5 : R.st = 5
  · have e5 : (R.st == 5) = true := by simpa using h5
    by_cases hx2 : x = 255
    · have HT := Lib.hid (show takeT R x = keepT R x by unfold takeT; rw [if_neg h1, if_neg h2, if_neg h3, if_neg h4, if_pos h5, if_pos hx2])
      have ex : (x == 255) = true := by simpa using hx2
      clear h1 h2 h3 h4 h5 hx2
      go_enter Tryz.func136, Tryz.ntmps136
      go_wp2_with (go_at_call 172; refine HKP.out.mono ?_; rintro e w1 ⟨rfl, hp2, hp3⟩)
      rw [HT.out]
      go_end0
      exact ⟨rfl, hp2, hp3⟩
    · have ex : (x == 255) = false := by simpa using hx2
      by_cases hx3 : x = 240
      · have HT := Lib.hid (show takeT R x = endT R false by unfold takeT; rw [if_neg h1, if_neg h2, if_neg h3, if_neg h4, if_pos h5, if_neg hx2, if_pos hx3])
        have ex2 : (x == 240) = true := by simpa using hx3
        clear h1 h2 h3 h4 h5 hx2 hx3
        go_enter Tryz.func136, Tryz.ntmps136
        go_wp2_with (go_at_call 173; refine HE0.out.mono ?_; rintro e w1 ⟨rfl, hp2, hp3⟩)
        rw [HT.out]
        go_end0
        exact ⟨rfl, hp2, hp3⟩
      · have HT := Lib.hid (show takeT R x = cmdT (endT R true) x by unfold takeT; rw [if_neg h1, if_neg h2, if_neg h3, if_neg h4, if_pos h5, if_neg hx2, if_neg hx3])
        have ex2 : (x == 240) = false := by simpa using hx3
        clear h1 h2 h3 h4 h5 hx2 hx3
        go_enter Tryz.func136, Tryz.ntmps136
        go_wp2_with fail
        refine HE1.out.mono ?_
        rintro e w1 ⟨rfl, hr1, hk1⟩
        have HR1 := Lib.hid hr1
        have HK1 := Lib.hid hk1
        clear hr1 hk1
        go_wp2_with fail
        refine (command_is x hx HR1.out (by have := endT_out R true; omega) (by rw [endT_data]; simp)).mono ?_
        rintro e w2 ⟨rfl, hp2, hp3⟩
        go_wp2
        rw [HT.out]
        go_end0
        exact RdPost.then HK1.out ⟨rfl, hp2, hp3⟩ H.out.lt
  have e5 : (R.st == 5) = false := by simpa using h5
  by_cases hx2 : x = 255
  · have HT := Lib.hid (show takeT R x = { R with st := 1 } by unfold takeT; rw [if_neg h1, if_neg h2, if_neg h3, if_neg h4, if_neg h5, if_pos hx2])
    have ex : (x == 255) = true := by simpa using hx2
    clear h1 h2 h3 h4 h5 hx2
    go_enter Tryz.func136, Tryz.ntmps136
    go_wp2
    rw [HT.out]
    go_end0
    exact HTO.out 1
  · have HT := Lib.hid (show takeT R x = { R with data := R.data ++ [x] } by unfold takeT; rw [if_neg h1, if_neg h2, if_neg h3, if_neg h4, if_neg h5, if_neg hx2])
    have ex : (x == 255) = false := by simpa using hx2
    clear h1 h2 h3 h4 h5 hx2
    go_enter Tryz.func136, Tryz.ntmps136
    go_wp2_with (at_builtin; go_must (refine wpList_row rfl 30 rfl 5 i0 _ 1 1 Tryz.underlying30 hi hz0 hz1 hz2 rfl (by decide) rfl (H.out.data.up ((Up.refl _).alloc _)) rfl (reads_at w w.heap.size 1 1 #[.int .u8 x] 5 rfl rfl) (one_bs [x]) (by simp [maxLen]; omega) (by omega) ?_; intro A1 c1 w1 hr1 hg1 hb1; have st1 : St w1 249 b (rdVals R Ad cd As cs Ao co) := (H.out.st.alloc _).grown hg1 (H.out.data.ne H.out.st ne_rd8); have d3 := st1.cell 3 (v := .slice Ad R.data.length cd) rfl; have e3 := st1.free 3; have zb1 := st1.lt; have HR1 := Lib.hid hr1; have HG1 := Lib.hid hg1; have HB1 := Lib.hid hb1; clear st1 hr1 hg1 hb1))
    go_end0
    rw [HT.out]
    obtain ⟨g1, g2⟩ := H.out.pushD hx HR1.out HG1.out HB1.out
    exact ⟨rfl, ⟨_, _, _, _, _, _, _, g1, HN.out⟩, g2⟩
theorem takeT_bd (R : RdT) (x : Int) : (takeT R x).data.length ≤ R.data.length + 1 ∧ (takeT R x).out.length ≤ R.out.length + 4 ∧ ((takeT R x).sub.length ≤ R.sub.length ∨ (takeT R x).sub.length ≤ 256) := by
  have hf : ∀ R : RdT, (flushT R).out.length ≤ R.out.length + 1 := flushT_out
  have hd : ∀ R : RdT, (flushT R).data = [] := fun _ => rfl
  have hs : ∀ R : RdT, (flushT R).sub = R.sub := fun _ => rfl
  have ht : ∀ (R : RdT) (e : EvT), (tellT R e).data = [] ∧ (tellT R e).out.length ≤ R.out.length + 2 ∧ (tellT R e).sub = R.sub := fun R e => by
    refine ⟨rfl, ?_, rfl⟩
    have := hf R
    unfold tellT; simp; omega
  have hc : ∀ (R : RdT) (x : Int), (cmdT R x).data.length ≤ R.data.length + 1 ∧ (cmdT R x).out.length ≤ R.out.length + 2 ∧ (cmdT R x).sub = R.sub := fun R x => by
    unfold cmdT
    split
    · simp
    split
    · simp
    split
    · simp
    · have := ht R ⟨1, x, 0, [], false, false⟩
      rw [this.1, this.2.2]
      exact ⟨by simp, this.2.1, rfl⟩
  have hk : ∀ (R : RdT) (x : Int), (keepT R x).data = R.data ∧ (keepT R x).out = R.out ∧ ((keepT R x).sub.length ≤ R.sub.length ∨ (keepT R x).sub.length ≤ 256) := fun R x => by
    unfold keepT
    split
    · exact ⟨rfl, rfl, .inl (Nat.le_refl _)⟩
    · refine ⟨rfl, rfl, .inr ?_⟩
      simp; omega
  have he : ∀ (R : RdT) (b : Bool), (endT R b).data = [] ∧ (endT R b).out.length ≤ R.out.length + 2 ∧ (endT R b).sub = [] := fun R b => ⟨rfl, endT_out R b, rfl⟩
  unfold takeT
  split
  · have := hc R x; rw [this.2.2]; exact ⟨this.1, by omega, .inl (Nat.le_refl _)⟩
  split
  · have := ht R ⟨2, R.verb, x, [], false, false⟩; rw [this.1, this.2.2]; exact ⟨by simp, by omega, .inl (Nat.le_refl _)⟩
  split
  · exact ⟨by simp, by simp, .inl (Nat.le_refl _)⟩
  split
  · split
    · exact ⟨by simp, by simp, .inl (Nat.le_refl _)⟩
    · have := hk R x; rw [this.1, this.2.1]; exact ⟨by omega, by omega, this.2.2⟩
  split
  · split
    · have := hk R x; rw [this.1, this.2.1]; exact ⟨by omega, by omega, this.2.2⟩
    split
    · have := he R false; rw [this.1, this.2.2]; exact ⟨by simp, by omega, .inr (by simp)⟩
    · have h1 := he R true
      have h2 := hc (endT R true) x
      rw [h2.2.2, h1.2.2]
      rw [h1.1] at h2
      exact ⟨by simp at h2; omega, by omega, .inr (by simp)⟩
  split
  · exact ⟨by simp, by simp, .inl (Nat.le_refl _)⟩
  · exact ⟨by simp, by simp, .inl (Nat.le_refl _)⟩
theorem foldT_bd : ∀ (p : List Int) (R : RdT), (p.foldl takeT R).data.length ≤ R.data.length + p.length ∧ (p.foldl takeT R).out.length ≤ R.out.length + 4 * p.length ∧ ((p.foldl takeT R).sub.length ≤ R.sub.length ∨ (p.foldl takeT R).sub.length ≤ 256)
  | [], R => by simp
  | x :: p, R => by
    have h := takeT_bd R x
    have h2 := foldT_bd p (takeT R x)
    simp only [List.foldl_cons, List.length_cons]
    omega
/-- what Feed leaves: the events, in blocks of their own; the reader, in the others -/
def FeedPost (w : World) (b : Nat) (F : Nat → Prop) (R : RdT) (e : Ending) (w' : World) : Prop :=
  Keep F w w' ∧ ∃ A c xs F1 G1, e = .returned (.slice A xs.length c) ∧ xs.map EvV.bare = R.out ∧ EvL w' G1 A c xs ∧ RdAt w' b F1 { R with out := [] } ∧ (∀ k, F1 k → Gr F w w' k) ∧ (∀ k, G1 k → Gr F w w' k) ∧ (∀ k, F1 k → ¬ G1 k)
theorem RdI.part {w : World} {b : Nat} {F : Nat → Prop} {R : RdT} {As Ao : Option Addr} {cs co : Nat} {xs : List EvV} (h : RdI w b F R none 0 As cs Ao co xs) (hn : NeS As xs) (hd : R.data = []) :
    ∃ G : Nat → Prop, EvL w G Ao co xs ∧ (∀ k, G k → F k) ∧ RdAt (w.setCell ⟨b, 6, none⟩ (.slice none 0 0)) b (fun k => F k ∧ ¬ G k) { R with out := [] } ∧ EvL (w.setCell ⟨b, 6, none⟩ (.slice none 0 0)) G Ao co xs := by
  have hb1 := h.out.row.ne h.st ne_rdev
  have hG : ∀ k, (blk Ao = some k ∨ ∃ x ∈ xs, blk x.A = some k) → F k ∧ k ≠ b := fun k hk => by
    rcases hk with hk | ⟨x, hx, hk⟩
    · exact ⟨h.out.row.in_ k hk, fun e => hb1 (e ▸ hk)⟩
    · exact ⟨(h.out.good x hx).in_ k hk, fun e => (h.out.good x hx).block_ne h.st ne_rd8 (e ▸ hk)⟩
  have hE : EvL w (fun k => blk Ao = some k ∨ ∃ x ∈ xs, blk x.A = some k) Ao co xs := by
    refine ⟨⟨h.out.row.own, h.out.row.le, h.out.row.mx, fun g hg => .inl hg⟩, fun x hx => ?_⟩
    have := h.out.good x hx
    exact ⟨this.rd, this.cap, this.mx, fun g hg => .inr ⟨x, hx, hg⟩, this.bytes, this.tag⟩
  have hk : Keep (fun k => k = b) w (w.setCell ⟨b, 6, none⟩ (.slice none 0 0)) := (Keep.refl (fun k => k = b) w).setCell (p := ⟨b, 6, none⟩) (.inl rfl) _
  refine ⟨_, hE, fun k hk => (hG k hk).1, ⟨none, 0, As, cs, none, 0, [], ⟨?_, ⟨h.fb, fun hg => (hG b hg).2 rfl⟩, ?_, ?_, EvL.nil, rfl, (fun _ hg => by cases hg), (fun _ hx => by cases hx), h.bd, h.bsu, fun k hk => by have := h.lt k hk.1; simp; omega⟩, fun _ hx => by cases hx⟩, hE.keep hk (fun g hg e => (hG g hg).2 e)⟩
  · simpa [rdVals] using h.st.set 6 (.slice none 0 0)
  · rw [hd]; exact Row.none_
  · have hr := h.sub.keep hk (fun g hg e => h.sub.ne h.st ne_rd8 (e ▸ hg))
    refine ⟨hr.own, hr.le, hr.mx, fun g hg => ⟨h.sub.in_ g hg, fun hgg => ?_⟩⟩
    rcases hgg with hgg | ⟨x, hx, hgg⟩
    · exact h.sub.apart h.out.row ne_ev8.symm g hg hgg
    · exact hn x hx g hgg hg
theorem NeS.fl0 {w : World} {b : Nat} {F : Nat → Prop} {R : RdT} {Ad As Ao : Option Addr} {cd cs co : Nat} {xs : List EvV} (h : RdI w b F R Ad cd As cs Ao co xs) (hn : NeS As xs) : NeS As (flX R Ad cd xs) := by
  have := NeS.fl h hn (x := ⟨0, 0, 0, none, 0, [], false, false⟩) rfl
  exact fun y hy => this y (List.mem_append_left _ hy)
set_option maxRecDepth 100000 in
set_option maxHeartbeats 6400000 in
theorem feed_is {w : World} {b n c : Nat} {F G : Nat → Prop} {A : Option Addr} {p : List Int} {R : RdT} (h : RdAt w b F R) (hp : Bt w G A n c p) (hG : ∀ k, G k → ¬ F k) (hn : n ≤ 40000) (hd : R.data.length ≤ 30000) (ho : R.out.length ≤ 30000) (hs : R.sub.length ≤ 256) :
    Calls Tryz.prog 102 #[.pointer (some ⟨b, 0, none⟩), .slice A n c] w (FeedPost w b F (feedT R p)) := by
  have H := Lib.hid h
  have HP := Lib.hid hp
  have HG := Lib.hid hG
  have hlen := hp.len
  have HL := Lib.hid hlen
  have HF0 := Lib.hid (show RdAt w b (Gr F w w) R from h.wide (fun k hk => .inl hk) (Gr.lt h.lt (Nat.le_refl _)))
  clear h hp hG hlen
  go_enter Tryz.func102, Tryz.ntmps102
  go_wp2_with fail
  go_loopw [12] (fun i wr => ∃ j : Nat, i = .int .i64 (j : Int) ∧ j ≤ n ∧ RdAt wr b (Gr F w wr) ((p.take j).foldl takeT R) ∧ Keep F w wr) (fun i _ => n - (intOf i).toNat)
  case atStart => exact ⟨0, rfl, Nat.zero_le _, by simpa using HF0.out, Keep.refl _ _⟩
  case round =>
    obtain ⟨j, rfl, hj, hr, hk⟩ := hrel
    have HR := Lib.hid hr
    have HK := Lib.hid hk
    clear hr hk
    by_cases hlt : j < n
    · obtain ⟨g, off, rfl, hg⟩ := HP.out.rd.form (by omega)
      have hpk : Bt wr G (some ⟨g, off, none⟩) n c p := HP.out.keep HK.out (fun k hk => HG.out k (HP.out.in_ k hk))
      have hcell := (hpk.sl (by omega)).cell (i := j) hlt
      have hby := (hpk.sl (by omega)).byte (i := j)
      have hgz : g < wr.heap.size := hpk.lt rfl
      have hbd := foldT_bd (p.take j) R
      have hjl : (p.take j).length = j := by rw [List.length_take, HL.out]; omega
      have htk := HR.out
      have HTK := Lib.hid (show (p.take (j + 1)).foldl takeT R = takeT ((p.take j).foldl takeT R) (p.getD j 0) by
        rw [List.take_succ_eq_append_getElem (by rw [HL.out]; exact hlt), List.foldl_append, List.getD, List.getElem?_eq_getElem (by rw [HL.out]; exact hlt)]
        rfl)
      obtain ⟨x, hx⟩ : ∃ x, p.getD j 0 = x := ⟨_, rfl⟩
      rw [hx] at hcell hby HTK
      have HTT := Lib.hid (rtake_is x hby HR.out (by rw [hjl] at hbd; omega) (by rw [hjl] at hbd; omega) (by rw [hjl] at hbd; omega))
      clear hx hbd hjl hpk htk
      go_wp2_with fail
      refine HTT.out.mono ?_
      rintro e w1 ⟨rfl, hr1, hk1⟩
      have HR1 := Lib.hid hr1
      have HK1 := Lib.hid hk1
      clear hr1 hk1
      go_wp2_with fail
      go_roundw
      case rel =>
        have hk2 : Keep F w w1 := HK.out.gr HK1.out
        refine ⟨j + 1, by go_num, by omega, ?_, hk2⟩
        rw [HTK.out]
        exact HR1.out.wide (Gr.trans HK.out.size HK1.out.size) (Gr.lt H.out.lt hk2.size)
      case measure => simp [intOf]; omega
    · obtain rfl : j = n := by omega
      have hfe : feedT R p = flushT ((p.take j).foldl takeT R) := by unfold feedT; rw [List.take_of_length_le (by rw [HL.out]; exact Nat.le_refl _)]
      have hbd := foldT_bd (p.take j) R
      have hjl : (p.take j).length = j := by rw [List.length_take, HL.out]; omega
      obtain ⟨Q, hQ⟩ : ∃ Q, (p.take j).foldl takeT R = Q := ⟨_, rfl⟩
      rw [hQ] at HR hfe hbd
      rw [hjl] at hbd
      have HFE := Lib.hid hfe
      obtain ⟨Ad, cd, As, cs, Ao, co, xs, hr, hne⟩ := HR.out
      have HI := Lib.hid hr
      have HNE := Lib.hid (NeS.fl0 hr hne)
      have HFL := Lib.hid (flush_is hr (by omega))
      clear hQ hjl hfe hr hne hbd
      go_wp2_with fail
      refine HFL.out.mono ?_
      rintro e w1 ⟨rfl, ⟨Ao1, co1, h1⟩, hk1⟩
      have HI1 := Lib.hid h1
      have HK1 := Lib.hid hk1
      have c6 := h1.st.cell 6 (v := .slice Ao1 (flushT Q).out.length co1) rfl
      have f6 := h1.st.free 6
      have zb := h1.st.lt
      have HOL := Lib.hid h1.olen
      clear h1 hk1
      go_wp2_with fail
      go_ret
      rw [HFE.out]
      obtain ⟨G1, g1, g2, g3, g4⟩ := HI1.out.part HNE.out rfl
      have hkk : Keep F w w1 := HK.out.gr HK1.out
      have sz : (w1.setCell ⟨b, 6, none⟩ (.slice none 0 0)).heap.size = w1.heap.size := by simp [World.setCell]
      have hfin : ∀ k, Gr (Gr F w wr) wr w1 k → Gr F w (w1.setCell ⟨b, 6, none⟩ (.slice none 0 0)) k := fun k hk => by
        have := Gr.trans HK.out.size HK1.out.size k hk
        rcases this with h | h
        · exact .inl h
        · exact .inr (by rw [sz]; exact h)
      refine ⟨hkk.gr ((Keep.refl (Gr F w w1) w1).setCell (p := ⟨b, 6, none⟩) (.inl (.inl H.out.fb)) _), Ao1, co1, _, _, G1, ?_, HI1.out.bare, g4, g3, fun k hk => hfin k hk.1, fun k hk => hfin k (g2 k hk), fun k hk => hk.2⟩
      rw [HOL.out]; rfl
theorem newReader_is (w : World) : Calls Tryz.prog 94 #[] w fun e w' => e = .returned (.pointer (some ⟨w.heap.size, 0, none⟩)) ∧ RdAt w' w.heap.size (fun k => k = w.heap.size) RdT.zero ∧ Up w w' := by
  go_enter Tryz.func94, Tryz.ntmps94
  go_wp2
  go_ret
  refine ⟨rfl, ⟨none, 0, none, 0, none, 0, [], ⟨?_, rfl, Row.none_, Row.none_, EvL.nil, rfl, (fun _ h => by cases h), (fun _ h => by cases h), BL.nil, BL.nil, fun k hk => by subst hk; simp⟩, fun _ h => by cases h⟩, (Up.refl _).alloc _⟩
  exact St.new w _ _ rfl
end Go.Proofs.YtamfjgioajmnpaaGreatDoor
namespace Go.Proofs.YtamfjgioajmnpaaGreatDoor
open Go.RowKit
set_option linter.unusedVariables false
set_option linter.unusedSimpArgs false

/-- bytes that a call has made -/
def NB (w : World) (l : List Int) (e : Ending) (w' : World) : Prop := ∃ A c, e = .returned (.slice A l.length c) ∧ Row 5 1 w' (fun k => w.heap.size ≤ k) A l.length c (bs l) ∧ Up w w'
def escT (p : List Int) : List Int := p.flatMap fun b => if b = 255 then [255, 255] else [b]
theorem escT_none {p : List Int} (h : (255 : Int) ∉ p) : escT p = p := by
  unfold escT
  induction p with
  | nil => rfl
  | cons x p ih =>
    rw [List.flatMap_cons, ih (fun hm => h (List.mem_cons_of_mem _ hm)), if_neg (fun e => h (by rw [e]; exact List.mem_cons_self))]
    rfl
theorem count_zero {p : List Int} (hb : BL p) (h : (255 : Int) ∉ p) : Lib.countByte (Lib.bytesOf p) (255 : Int).toNat.toUInt8 = 0 := by
  unfold Lib.countByte Lib.bytesOf
  rw [List.count_eq_zero]
  intro hx
  obtain ⟨y, hy, hxy⟩ := List.mem_map.1 hx
  have h1 := hb y hy
  have h2 : y ≠ 255 := fun e => h (e ▸ hy)
  have := congrArg UInt8.toNat hxy
  simp at this
  omega
theorem run_count0 {w : World} {G : Nat → Prop} {A : Option Addr} {n c : Nat} {p : List Int} (hp : Bt w G A n c p) (h : (255 : Int) ∉ p) :
    (Extern.BytealgCount.count #[.slice A n c, .int .u8 255]).run Tryz.prog w = .ok (.int .i64 0) w := by
  have hz := count_zero hp.bytes h
  cases n with
  | zero =>
    have hl : p = [] := List.eq_nil_of_length_eq_zero hp.len
    subst hl
    cases A with
    | none => exact Lib.run_countNil w 0 c 255
    | some a =>
      have := Lib.run_countAt (P := Tryz.prog) w a 0 c [] rfl (fun i hi => by omega) 255
      rw [hz] at this
      exact this
  | succ m =>
    obtain ⟨b, off, rfl, hb⟩ := hp.rd.form (by omega)
    have := Lib.run_countSlice (P := Tryz.prog) w b off (m + 1) c p hp.len (fun i hi => by
      obtain ⟨_, u, hu, hc⟩ := hp.rd.at_ (j := i) (by omega)
      rw [hc]
      simp only [bs, List.getElem?_map] at hu
      rw [List.getD_eq_getElem?_getD]
      cases hq : p[i]? with
      | none => rw [hq] at hu; cases hu
      | some x => rw [hq] at hu; simpa using hu.symm) 255
    rw [hz] at this
    exact this
set_option maxRecDepth 100000 in
set_option maxHeartbeats 1000000 in
theorem count0_is {w : World} {G : Nat → Prop} {A : Option Addr} {n c g : Nat} {p : List Int} (hp : Bt w G A n c p) (h : (255 : Int) ∉ p) (hs : w.cell? ⟨g, 0, none⟩ = some (.int .u8 255)) :
    Calls Tryz.prog 222 #[.slice A n c, .slice (some ⟨g, 0, none⟩) 1 1] w fun e w' => e = .returned (.int .i64 0) ∧ w = w' := by
  have hr := run_count0 hp h
  have zg := cell_lt hs
  clear hp h
  go_enter Tryz.func222, Tryz.ntmps222
  go_wp2
  rw [run_callFunc_extern Tryz.func271 (by kernel_rfl) (by kernel_rfl) (by kernel_rfl) (e := Extern.BytealgCount.count) (by kernel_rfl), hr]
  simp only [Result.andThen]
  rw [Oper.upon_value]
  go_wp2
  go_ret
  exact ⟨rfl, rfl⟩
set_option maxRecDepth 100000 in
set_option maxHeartbeats 1000000 in
theorem replace0_is {w : World} {G : Nat → Prop} {A : Option Addr} {n c g g2 : Nat} {p : List Int} (hp : Bt w G A n c p) (h : (255 : Int) ∉ p) (hs : w.cell? ⟨g, 0, none⟩ = some (.int .u8 255)) (hn : n ≤ 1000000000) :
    Calls Tryz.prog 169 #[.slice A n c, .slice (some ⟨g, 0, none⟩) 1 1, .slice (some ⟨g2, 0, none⟩) 2 2, .int .i64 (-1)] w (NB w p) := by
  obtain ⟨i0, hi, hz0, hz1, hz2⟩ := info_parts info_u8
  have HC := Lib.hid (count0_is hp h hs)
  have HP := Lib.hid hp
  clear hp h hs
  go_enter Tryz.func169, Tryz.ntmps169
  go_wp2_with (first | (go_at_call 222; refine HC.out.mono ?_; rintro e w' ⟨rfl, rfl⟩) | (at_builtin; go_must (refine wpList_row rfl 30 rfl 5 i0 _ 1 1 Tryz.underlying30 hi hz0 hz1 hz2 rfl (by decide) rfl (F := fun _ => False) Row.none_ rfl HP.out.rd (one_bs p) (by simp [maxLen]; omega) (by omega) ?_; intro A1 c1 w1 hr1 hg1 hb1; have HR1 := Lib.hid hr1; have HG1 := Lib.hid hg1; have HB1 := Lib.hid hb1; clear hr1 hg1 hb1)))
  go_ret
  have hr := HR1.out
  rw [Nat.zero_add, List.nil_append] at hr
  rw [← HP.out.len] at hr
  exact ⟨A1, c1, by simp [HP.out.len], hr.mono (fun g hg => hg.elim False.elim (fun e => by rw [e]; exact Nat.le_refl _)), ⟨HG1.out.os, HG1.out.tape, HG1.out.output, HG1.out.size, fun k hk => HG1.out.block k hk (fun e => by cases e)⟩⟩
set_option maxRecDepth 100000 in
set_option maxHeartbeats 1000000 in
theorem escape0_is {w : World} {G : Nat → Prop} {A : Option Addr} {n c : Nat} {p : List Int} (hp : Bt w G A n c p) (h : (255 : Int) ∉ p) (hn : n ≤ 1000000000) :
    Calls Tryz.prog 100 #[.slice A n c] w (NB w (escT p)) := by
  rw [escT_none h]
  have hu : Up w ((w.alloc (.cells #[.int .u8 255] 5)).alloc (.cells #[.int .u8 255, .int .u8 255] 5)) := ((Up.refl w).alloc _).alloc _
  have hs : ((w.alloc (.cells #[.int .u8 255] 5)).alloc (.cells #[.int .u8 255, .int .u8 255] 5)).cell? ⟨w.heap.size, 0, none⟩ = some (.int .u8 255) := by simp [go_sem]
  have HR := Lib.hid (replace0_is (g := w.heap.size) (g2 := w.heap.size + 1) (hp.up hu) h hs hn)
  have HU := Lib.hid hu
  clear hp h hs hu
  have HRA : ∀ {q : World → Prop}, True := fun {q} => trivial
  clear HRA
  have HA : Calls Tryz.prog 135 #[.slice A n c, .slice (some ⟨w.heap.size, 0, none⟩) 1 1, .slice (some ⟨w.heap.size + 1, 0, none⟩) 2 2] ((w.alloc (.cells #[.int .u8 255] 5)).alloc (.cells #[.int .u8 255, .int .u8 255] 5)) (NB ((w.alloc (.cells #[.int .u8 255] 5)).alloc (.cells #[.int .u8 255, .int .u8 255] 5)) p) := by
    have hr := HR
    generalize (w.alloc (.cells #[.int .u8 255] 5)).alloc (.cells #[.int .u8 255, .int .u8 255] 5) = W at *
    clear HU
    go_enter Tryz.func135, Tryz.ntmps135
    go_wp2_with fail
    refine hr.out.mono ?_
    rintro e w1 ⟨A1, c1, rfl, h3, h4⟩
    go_wp2
    go_ret
    exact ⟨A1, c1, rfl, h3, h4⟩
  have HAL := Lib.hid HA
  clear HA
  go_enter Tryz.func100, Tryz.ntmps100
  go_wp2_with fail
  refine HAL.out.mono ?_
  rintro e w1 ⟨A1, c1, rfl, h3, h4⟩
  go_wp2
  go_ret
  exact ⟨A1, c1, rfl, h3.mono (fun g hg => Nat.le_trans HU.out.size hg), HU.out.trans h4⟩
theorem bs_app (l m : List Int) : bs (l ++ m) = bs l ++ bs m := List.map_append
/-- append onto bytes that a call has made -/
theorem NB.app {w w1 w2 : World} {A A2 : Option Addr} {n m c2 : Nat} {l : List Int} {b : Nat} (hu : Up w w1) (hr : Row 5 1 w2 (fun k => w.heap.size ≤ k ∨ k = b) A2 (n + m) c2 (bs l)) (hb : w.heap.size ≤ b) (hg : w1.grownBy w2 (blk A)) (hA : ∀ g, blk A = some g → w.heap.size ≤ g) : Row 5 1 w2 (fun k => w.heap.size ≤ k) A2 (n + m) c2 (bs l) ∧ Up w w2 :=
  ⟨hr.mono (fun g hg => hg.elim id (fun e => by omega)), hu.grown hg (fun g h => hA g h)⟩
set_option maxRecDepth 100000 in
set_option maxHeartbeats 1000000 in
theorem recBytes_is {w : World} {G : Nat → Prop} {A : Option Addr} {n c : Nat} {p : List Int} (hp : Bt w G A n c p) (h : (255 : Int) ∉ p) (hn : n ≤ 1000000000) :
    Calls Tryz.prog 92 #[.slice A n c] w (NB w (escT p ++ [255, 239])) := by
  obtain ⟨i0, hi, hz0, hz1, hz2⟩ := info_parts info_u8
  have HE := Lib.hid (escape0_is hp h hn)
  have hlen : (escT p).length ≤ 1000000000 := by rw [escT_none h, hp.len]; exact hn
  generalize escT p = q at *
  clear hp h
  go_enter Tryz.func92, Tryz.ntmps92
  go_wp2_with fail
  refine HE.out.mono ?_
  rintro e w1 ⟨A1, c1, rfl, h3, h4⟩
  have H3 := Lib.hid h3
  have H4 := Lib.hid h4
  clear h3 h4
  go_wp2_with (at_builtin; go_must (refine wpList_row rfl 30 rfl 5 i0 _ 1 1 Tryz.underlying30 hi hz0 hz1 hz2 rfl (by decide) rfl (H3.out.up ((Up.refl _).alloc _)) rfl (reads_at w1 w1.heap.size 1 2 #[.int .u8 255, .int .u8 239] 5 rfl rfl) (one_bs [255, 239]) (by simp [maxLen]; omega) (by omega) ?_; intro A2 c2 w2 hr2 hg2 hb2; have HR2 := Lib.hid hr2; have HG2 := Lib.hid hg2; clear hr2 hg2 hb2))
  go_ret
  have hb := NB.app (H4.out.alloc _) (l := q ++ [255, 239]) (by rw [bs_app]; exact HR2.out) (by simp; have := H4.out.size; omega) HG2.out (fun g hg => H3.out.in_ g hg)
  have hl : (q ++ [255, 239]).length = q.length + 2 := by simp
  unfold NB
  rw [hl]
  exact ⟨A2, c2, rfl, hb.1, hb.2⟩
set_option maxRecDepth 100000 in
set_option maxHeartbeats 1000000 in
theorem subBytes_is {w : World} {G : Nat → Prop} {A : Option Addr} {n c : Nat} {p : List Int} {o : Int} (hp : Bt w G A n c p) (h : (255 : Int) ∉ p) (hn : n ≤ 1000000000) :
    Calls Tryz.prog 54 #[.int .u8 o, .slice A n c] w (NB w ([255, 250, o] ++ escT p ++ [255, 240])) := by
  obtain ⟨i0, hi, hz0, hz1, hz2⟩ := info_parts info_u8
  have hu0 : Up w (w.alloc (.cells #[.int .u8 255, .int .u8 250, .int .u8 o] 5)) := (Up.refl w).alloc _
  have HU0 := Lib.hid hu0
  have HE := Lib.hid (escape0_is (hp.up hu0) h hn)
  have hlen : (escT p).length ≤ 1000000000 := by rw [escT_none h, hp.len]; exact hn
  generalize escT p = q at *
  clear hp h hu0
  go_enter Tryz.func54, Tryz.ntmps54
  go_wp2_with fail
  refine HE.out.mono ?_
  rintro e w1 ⟨A1, c1, rfl, h3, h4⟩
  have H3 := Lib.hid h3
  have H4 := Lib.hid h4
  have hrow : Row 5 1 w1 (fun k => w.heap.size ≤ k) (some ⟨w.heap.size, 0, none⟩) 3 3 (bs [255, 250, o]) := by
    refine ⟨?_, by omega, by simp [maxLen], fun g hg => by simp [blk] at hg; omega⟩
    exact own_up (own_base (World.ownsRow_lit w #[.int .u8 255, .int .u8 250, .int .u8 o] 3 (Nat.le_refl _) (by simp [maxLen]) rfl) (Nat.zero_le _)) h4
  have HW := Lib.hid hrow
  have z4 := h4.size
  have z4a : w.heap.size ≤ w1.heap.size := by simp at z4; omega
  have H4 := Lib.hid (HU0.out.trans h4)
  clear h3 h4 hrow
  go_wp2_with (at_builtin; first | (refine wpList_row (n := 3) rfl 30 rfl 5 i0 _ 1 1 Tryz.underlying30 hi hz0 hz1 hz2 rfl (by decide) rfl HW.out rfl H3.out.reads (one_bs q) (by simp [maxLen]; omega) (by omega) ?_; intro A2 c2 w2 hr2 hg2 hb2; have HR2 := Lib.hid hr2; have HG2 := Lib.hid hg2; clear hr2 hg2 hb2) | (go_must (refine wpList_row rfl 30 rfl 5 i0 _ 1 1 Tryz.underlying30 hi hz0 hz1 hz2 rfl (by decide) rfl (HR2.out.up ((Up.refl _).alloc _)) rfl (reads_at w2 w2.heap.size 1 2 #[.int .u8 255, .int .u8 240] 5 rfl rfl) (one_bs [255, 240]) (by simp [maxLen]; omega) (by omega) ?_; intro A3 c3 w3 hr3 hg3 hb3; have HR3 := Lib.hid hr3; have HG3 := Lib.hid hg3; clear hr3 hg3 hb3)))
  go_ret
  have hb := NB.app H4.out (l := [255, 250, o] ++ q) (by rw [bs_app]; exact HR2.out) z4a HG2.out (fun g hg => HW.out.in_ g hg)
  have hb2 := NB.app (hb.2.alloc _) (l := [255, 250, o] ++ q ++ [255, 240]) (by rw [bs_app, bs_app]; exact HR3.out.mono (fun g hg => hg.elim (fun h => .inl (h.elim id (fun e => by omega))) .inr)) (by simp; have := hb.2.size; omega) HG3.out (fun g hg => hb.1.in_ g hg)
  have hl : ([255, 250, o] ++ q ++ [255, 240]).length = 3 + q.length + 2 := by simp; omega
  show NB w ([255, 250, o] ++ q ++ [255, 240]) _ _
  unfold NB
  rw [hl]
  exact ⟨A3, c3, rfl, hb2.1, hb2.2⟩
end Go.Proofs.YtamfjgioajmnpaaGreatDoor
