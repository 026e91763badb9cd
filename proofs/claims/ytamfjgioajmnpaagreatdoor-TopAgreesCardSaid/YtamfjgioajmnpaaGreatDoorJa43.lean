/-
What screen and event make of a record that the terminal takes without a word. Conditions: what the terminal's Host does; that few errors were told.
telnet.Events as an iterator. Conditions: that what comes is short.
host.Said: the options and subnegotiations of a stream. Conditions: that it is short.
-/
import Derived.Test.YtamfjgioajmnpaaGreatDoorJa42
import Derived.Test.YtamfjgioajmnpaaGreatDoorJa33
import Derived.Test.YtamfjgioajmnpaaGreatDoorJa41
namespace Go.Proofs.YtamfjgioajmnpaaGreatDoor
open Go.RowKit
set_option linter.unusedVariables false
set_option linter.unusedSimpArgs false

/-- what the terminal makes of a record -/
def THostDo (T T' : TmT) (d : List Int) : Prop :=
  ∀ W bt Ft A c G, TabW W → TmAt W bt Ft T → Bt W G A d.length c d → (∀ k, G k → ¬ Ft k) → ¬ Ft 4 → Calls Tryz.prog 144 #[.pointer (some ⟨bt, 0, none⟩), .slice A d.length c] W fun e w' => e = .returned (.tuple #[.slice none 0 0, .int .i64 0]) ∧ TmAt w' bt (Gr Ft W w') T' ∧ Keep Ft W w'
set_option maxRecDepth 100000 in
set_option maxHeartbeats 6400000 in
theorem sscreen_is {w : World} {b bl c : Nat} {F G : Nat → Prop} {S : SsT} {T' : TmT} {A : Option Addr} {d : List Int} (h : SsR b bl S F w) (zl : bl < w.heap.size) (hlen : S.errs.length < 64) (hd : Bt w G A d.length c d) (hG : ∀ k, G k → ¬ F k) (hdo : THostDo S.T T' d) :
    Calls Tryz.prog 104 #[.pointer (some ⟨b, 0, none⟩), evVal 1 A d.length c] w (SsPost w b bl F { S with T := T', errs := S.errs ++ [0] } (.tuple #[])) := by
  obtain ⟨bt, own, At, ct, Ae, ce, h⟩ := h
  obtain ⟨W0, hW0⟩ : ∃ W0, w.alloc (.cells #[.int .i64 1, .slice A d.length c, .int .u8 0, .int .u8 0, .int .u8 0, .int .u16 0, .bool false] 132) = W0 := ⟨_, rfl⟩
  have hu0 : Up w W0 := by rw [← hW0]; exact (Up.refl w).alloc _
  have sb : St W0 132 w.heap.size (evCells 1 A d.length c) := by rw [← hW0]; exact St.new w _ (evCells 1 A d.length c) rfl
  have h0 := h.up hu0
  have k1 := h0.st.cell 1 (v := .pointer (some ⟨bt, 0, none⟩)) rfl
  have zb := h0.st.lt
  have z1 := sb.cell 1 (v := .slice A d.length c) rfl
  have zB := sb.lt
  have hqF : ¬ F w.heap.size := fun e => by have := h.lt _ e; omega
  have HD := Lib.hid (hdo W0.drew bt _ A c G (h0.tab.up (Up.refl W0).drew) (h0.tm.up (Up.refl W0).drew) ((hd.up hu0).up (Up.refl W0).drew) (fun k hk e => hG k hk e.1) (fun e => h0.nt e.1))
  have hbt : ¬ Cp F own 1 b := cp_no h.fb (by decide)
  have hBt : ¬ Cp F own 1 w.heap.size := fun e => hqF e.1
  obtain ⟨B, hB⟩ : ∃ B, w.heap.size = B := ⟨_, rfl⟩
  rw [hB] at z1 zB hBt hqF sb
  have HB := Lib.hid hB
  have HW0 := Lib.hid hW0
  have H0 := Lib.hid h0
  have HU0 := Lib.hid hu0
  have HW := Lib.hid (And.intro h.lt (And.intro h.tab h.nt))
  have SB := Lib.hid sb
  have HLEN := Lib.hid hlen
  have zl0 : bl < W0.heap.size := by have := hu0.size; omega
  clear h h0 hu0 hW0 hB sb hd hdo hlen
  simp only [evVal]
  go_enter Tryz.func104, Tryz.ntmps104
  go_wp2_with fail
  rw [HW0.out, HB.out]
  go_region_held_law (fun w' => w'.cell? ⟨b, 1, none⟩ = some (.pointer (some ⟨bt, 0, none⟩)) ∧ w'.cell? ⟨B, 1, none⟩ = some (.slice A d.length c)) (first | exact ⟨k1, z1⟩ | exact ⟨s0, s1⟩ | go_keep) ((go_simp; go_at_call 144; refine HD.out.mono ?_; rintro e w1 ⟨rfl, ht1, hk1⟩; obtain ⟨kc, -⟩ := hk1.at_ b (show b < W0.drew.heap.size from zb) hbt; obtain ⟨kx, -⟩ := hk1.at_ B (show B < W0.drew.heap.size from zB) hBt; have s0 := (kc 1).trans k1; have s1 := (kx 1).trans z1; have HT1 := Lib.hid ht1; have HK1 := Lib.hid hk1; clear ht1 hk1 kc kx))
  go_wp2_with fail
  obtain ⟨h2, hk2F⟩ := (H0.out.up (Up.refl W0).drew).put_tm HK1.out HT1.out
  have sB := (SB.out.drew).keep HK1.out hBt
  have e0 := sB.cell 0 (v := .int .i64 1) rfl
  have e1 := sB.cell 1 (v := .slice A d.length c) rfl
  have e2 := sB.cell 2 (v := .int .u8 0) rfl
  have e3 := sB.cell 3 (v := .int .u8 0) rfl
  have e4 := sB.cell 4 (v := .int .u8 0) rfl
  have e5 := sB.cell 5 (v := .int .u16 0) rfl
  have e6 := sB.cell 6 (v := .bool false) rfl
  have zB1 := sB.lt
  have zl1 : bl < w1.heap.size := by have h1 : W0.heap.size ≤ w1.heap.size := HK1.out.size; omega
  have HAN := Lib.hid (sanswer_is (k := 1) (x := 0) (n := d.length) (c := c) (A := A) ⟨_, _, _, _, _, _, h2⟩ zl1 HLEN.out)
  simp only [evVal] at HAN
  have hu0d : Up w W0.drew := HU0.out.drew
  have zw0 := hu0d.size
  have HK2 := Lib.hid (And.intro hk2F (And.intro hu0d h2.lt))
  clear h2 hk2F sB hu0d k1 z1 s0 s1
  refine wp_loop_rounds 1 ?_
  rw [rounds_succ]
  go_wp2_with fail
  refine HAN.out.mono ?_
  rintro e w3 ⟨rfl, h3, hk3⟩
  have HF := Lib.hid (And.intro h3 hk3)
  clear h3 hk3
  go_wp2_with fail
  go_end0
  have z3 := HF.out.2.size
  have z2 : W0.drew.heap.size ≤ w1.heap.size := HK1.out.size
  have hfw : ∀ k, Gr F W0.drew w1 k → Gr F w w3 k := fun k hk => hk.imp id (fun h => ⟨Nat.le_trans zw0 h.1, by omega⟩)
  have hkF : Keep F w w3 := ((Keep.of_up HK2.out.2.1).trans HK2.out.1).gr (HF.out.2.mono (fun k hk => hk.imp id (fun h => ⟨Nat.le_trans zw0 h.1, h.2⟩)))
  refine ⟨rfl, HF.out.1.wide (fun k hk => ?_) (Gr.lt HW.out.1 hkF.size) (gr_nt HW.out.2.1 HW.out.2.2), hkF⟩
  rcases hk with hk | hk
  · exact hfw k hk
  · exact .inr ⟨by omega, hk.2⟩
set_option maxRecDepth 100000 in
set_option maxHeartbeats 6400000 in
theorem sevent_is {w : World} {b bl c : Nat} {F G : Nat → Prop} {S : SsT} {T' : TmT} {A : Option Addr} {d : List Int} (h : SsR b bl S F w) (zl : bl < w.heap.size) (hlen : S.errs.length < 64) (hd : Bt w G A d.length c d) (hG : ∀ k, G k → ¬ F k) (hdo : THostDo S.T T' d) :
    Calls Tryz.prog 56 #[.pointer (some ⟨b, 0, none⟩), evVal 1 A d.length c] w (SsPost w b bl F { S with T := T', errs := S.errs ++ [0] } (.bool true)) := by
  have hu0 : Up w (w.alloc (.cells #[.int .i64 1, .slice A d.length c, .int .u8 0, .int .u8 0, .int .u8 0, .int .u16 0, .bool false] 132)) := (Up.refl w).alloc _
  have HSC := Lib.hid (sscreen_is (h.up hu0) (Nat.lt_of_lt_of_le zl hu0.size) hlen (hd.up hu0) hG hdo)
  have HW := Lib.hid (And.intro h.lt (And.intro (show TabW w by obtain ⟨_, _, _, _, _, _, h⟩ := h; exact h.tab) (show ¬ F 4 by obtain ⟨_, _, _, _, _, _, h⟩ := h; exact h.nt)))
  clear h hd hdo
  simp only [evVal] at *
  go_enter Tryz.func56, Tryz.ntmps56
  go_wp2_with fail
  refine HSC.out.mono ?_
  rintro e w1 ⟨rfl, h1, hk1⟩
  have HF := Lib.hid (And.intro h1 hk1)
  clear h1 hk1
  go_wp2_with fail
  go_ret
  have hkF : Keep F w w1 := (Keep.of_up hu0).trans HF.out.2
  exact ⟨rfl, HF.out.1.wide (fun k hk => hk.imp id (fun h => ⟨by have := hu0.size; omega, h.2⟩)) (Gr.lt HW.out.1 hkF.size) (gr_nt HW.out.2.1 HW.out.2.2), hkF⟩
end Go.Proofs.YtamfjgioajmnpaaGreatDoor
namespace Go.Proofs.YtamfjgioajmnpaaGreatDoor
open Go.RowKit
set_option linter.unusedVariables false
set_option linter.unusedSimpArgs false

def E1T {ρ : Type} (Rest : ρ → (Nat → Prop) → World → Prop) (r : ρ) (x : EvV) (F : Nat → Prop) (W : World) : Prop := Rest r F W ∧ Bt W (fun g => ¬ F g) x.A x.data.length x.c x.data
def E2T {ρ : Type} (Rest : ρ → (Nat → Prop) → World → Prop) (bd : ρ → EvT → ρ) (r : ρ) (x : EvV) (F : Nat → Prop) (W : World) : Prop := Rest (bd r x.bare) F W
def EeT {ρ : Type} (Rest : ρ → (Nat → Prop) → World → Prop) (fin : ρ) (r : ρ) (F : Nat → Prop) (W : World) : Prop := r = fin ∧ Rest r F W
def evVals (x : EvV) : Value := .agg #[.int .i64 x.kind, .int .u8 x.verb, .int .u8 x.opt, .slice x.A x.data.length x.c, .bool x.long, .bool x.broken]
theorem enters_events : ∀ args w, (callFunc 162 args).run Tryz.prog w = .ok (.enter 162 args) w := enters_of Tryz.func162 (by kernel_rfl) rfl
/-- how the loop stands -/
structure EpI {ρ : Type} (Rest : ρ → (Nat → Prop) → World → Prop) (F0 G1 : Nat → Prop) (A1 : Option Addr) (c1 : Nat) (xs : List EvV) (W : World) (r : ρ) (wr : World) : Prop where
  kp : Keep F0 W wr
  rs : ∃ Fr, (∀ k, Fr k → Gr F0 W wr k) ∧ Rest r Fr wr ∧ ∀ k, G1 k → ¬ Fr k
  ev : EvL wr G1 A1 c1 xs
  g1 : ∀ k, G1 k → k < wr.heap.size
set_option maxRecDepth 100000 in
set_option maxHeartbeats 12800000 in
theorem events_it {ρ : Type} {Rest : ρ → (Nat → Prop) → World → Prop} {bd : ρ → EvT → ρ} {b1 n c : Nat} {A : Option Addr} {p : List Int} {F0 Gp : Nat → Prop} {r0 : ρ} {w : World}
    (hRk : ∀ r F W W' (E : Nat → Prop), Rest r F W → Keep E W W' → (∀ k, F k → ¬ E k) → Rest r F W') (hRl : ∀ r F W, Rest r F W → ∀ k, F k → k < W.heap.size)
    (h0 : Rest r0 F0 w) (hc1 : w.cell? ⟨b1, 0, none⟩ = some (.slice A n c)) (hp : Bt w Gp A n c p) (hn : n ≤ 40000) :
    ItS Tryz.prog 162 #[.pointer (some ⟨b1, 0, none⟩)] (fun x : EvV => #[evVals x]) F0 (fun r x F W => E1T Rest r x F W ∧ ∃ j : Nat, (feedT RdT.zero p).out[j]? = some x.bare ∧ r = ((feedT RdT.zero p).out.take j).foldl bd r0) (E2T Rest bd) (EeT Rest ((feedT RdT.zero p).out.foldl bd r0)) w := by
  obtain ⟨R1, hR1⟩ : ∃ R1, feedT RdT.zero p = R1 := ⟨_, rfl⟩
  rw [hR1]
  have hmb : R1.out.length ≤ 200000 := by
    have e1 := flushT_out (p.foldl takeT RdT.zero)
    have e2 := foldT_bd p RdT.zero
    have e3 := hp.len
    have e4 : RdT.zero.out.length = 0 := rfl
    rw [← hR1]
    unfold feedT
    omega
  have HMB := Lib.hid hmb
  intro k l W hu hY
  have q1 : W.cell? ⟨b1, 0, none⟩ = some (.slice A n c) := ((hu.at_ b1 (cell_lt hc1)).1 0).trans hc1
  have zz1 := cell_lt q1
  have hR : Rest r0 F0 W := hRk _ _ _ _ (fun _ => False) h0 (Keep.of_up hu) (fun _ _ h => h)
  have hlt0 : ∀ k, F0 k → k < W.heap.size := hRl _ _ _ hR
  have hpW := hp.up hu
  have HNR := Lib.hid (newReader_is)
  have HFD : ∀ W2 B, Up W W2 → RdAt W2 B (fun k => k = B) RdT.zero → (∀ k, Gp k → k ≠ B) → Calls Tryz.prog 102 #[.pointer (some ⟨B, 0, none⟩), .slice A n c] W2 (FeedPost W2 B (fun k => k = B) R1) := fun W2 B h1 h2 h3 => by
    rw [← hR1]
    exact feed_is h2 (hpW.up h1) h3 hn (by decide) (by decide) (by decide)
  have hGp : ∃ G2 : Nat → Prop, Bt W G2 A n c p ∧ ∀ k, G2 k → k < W.heap.size := ⟨fun k => blk A = some k, ⟨hpW.rd, hpW.cap, hpW.mx, fun g hg => hg, hpW.bytes, hpW.tag⟩, fun k hk => hpW.lt hk⟩
  obtain ⟨G2, hpG, hG2⟩ := hGp
  have HFD2 : ∀ W2 B, Up W W2 → W.heap.size ≤ B → RdAt W2 B (fun k => k = B) RdT.zero → Calls Tryz.prog 102 #[.pointer (some ⟨B, 0, none⟩), .slice A n c] W2 (FeedPost W2 B (fun k => k = B) R1) := fun W2 B h1 hB h2 => by
    rw [← hR1]
    exact feed_is h2 (hpG.up h1) (fun k hk e => by have := hG2 k hk; omega) hn (by decide) (by decide) (by decide)
  have HF := Lib.hid HFD2
  have HR := Lib.hid hR
  have HY := Lib.hid hY
  have HRK := Lib.hid hRk
  have HRL := Lib.hid hRl
  have HLT0 := Lib.hid hlt0
  have hb1F : F0 b1 ∨ ¬ F0 b1 := Classical.em _
  clear hR hY hRk hRl hlt0 h0 hu hp hpW hc1 hn HFD HFD2 hpG hG2 hb1F hR1 hmb
  refine callsIn_of_wp Tryz.func162 rfl trivial ?_ rfl
  simp only [Tryz.ntmps162, List.size_toArray, List.length_cons, List.length_nil, Nat.reduceAdd, Nat.reduceSub, Array.replicate_succ, Array.replicate_zero, List.push_toArray, List.append_toArray, List.nil_append, List.cons_append]
  gi_wp2
  refine wpIn_wide.2 ?_
  go_region_held_law (fun w' => w'.cell? ⟨b1, 0, none⟩ = some (.slice A n c)) (first | exact q1 | exact s1 | exact t1 | go_keep) ((first | (go_simp; go_at_call 94; refine (HNR.out _).mono ?_; rintro e w1 ⟨rfl, hrd, hu1⟩; have s1 := ((hu1.at_ b1 (show b1 < W.drew.heap.size from zz1)).1 0).trans q1; have z1 := cell_lt s1; have HRD := Lib.hid hrd; have HU1 := Lib.hid hu1; clear hrd hu1) | (go_simp; go_at_call 102; refine (HF.out w1 _ (((Up.refl W).drew).trans HU1.out) (Nat.le_refl _) HRD.out).mono ?_; rintro e w2 ⟨hk2, A1, c1, xs, F1, G1, rfl, hxb, hev, hrd2, hF1, hG1, hFG⟩; have t1 := ((hk2.at_ b1 z1 (show ¬ b1 = W.heap.size by omega)).1 0).trans s1; have HK2 := Lib.hid hk2; have HXB := Lib.hid hxb; have HEV := Lib.hid hev; have HG1 := Lib.hid hG1; clear hk2 hxb hev hrd2 hF1 hG1 hFG)))
  have hu1 : Up W w1 := ((Up.refl W).drew).trans HU1.out
  have z10 : W.heap.size ≤ w1.heap.size := hu1.size
  have hk02 : Keep (fun k => k = W.heap.size) W w2 := (Keep.of_up hu1).trans HK2.out
  have hkE : Keep F0 W w2 := (Keep.of_up (E := F0) hu1).gr (HK2.out.mono (fun k e => .inr ⟨by omega, by rw [e]; exact HRD.out.lt _ rfl⟩))
  have hlp : EpI Rest F0 G1 A1 c1 xs W r0 w2 := by
    refine ⟨hkE, ⟨F0, fun k hk => .inl hk, HRK.out _ _ _ _ _ HR.out hk02 (fun k hk e => by have := HLT0.out k hk; omega), fun k hk hf => ?_⟩, HEV.out, fun k hk => ?_⟩
    · have h1 := HLT0.out k hf
      rcases HG1.out k hk with h | h
      · have h : k = W.heap.size := h
        omega
      · omega
    · rcases HG1.out k hk with h | h
      · have h : k = W.heap.size := h
        have h5 : W.heap.size < w1.heap.size := HRD.out.lt _ rfl
        have := HK2.out.size
        omega
      · exact h.2
  have HLP := Lib.hid hlp
  have hxl : xs.length = R1.out.length := by rw [← HXB.out, List.length_map]
  have HXL := Lib.hid hxl
  obtain ⟨m, hm⟩ : ∃ m, xs.length = m := ⟨_, rfl⟩
  have hmi : (m : Int) ≤ 200000 := by have := HMB.out; omega
  have HM := Lib.hid hm
  simp only [hm]
  clear hu1 z10 hk02 hkE hlp hxl hm s1 t1
  gi_wp2
  gi_loopw [9] (fun q wr => ∃ j : Nat, q = .int .i64 (j : Int) ∧ j ≤ m ∧ EpI Rest F0 G1 A1 c1 xs W ((R1.out.take j).foldl bd r0) wr) (fun q _ => m - (intOf q).toNat)
  case atStart => exact ⟨0, rfl, Nat.zero_le _, by simpa using HLP.out⟩
  case round =>
    obtain ⟨j, rfl, hj, hlp⟩ := hrel
    by_cases hlt : j < m
    · obtain ⟨x, hx⟩ : ∃ x, xs[j]? = some x := ⟨_, List.getElem?_eq_getElem (by have := HM.out; omega)⟩
      have hxe : R1.out[j]? = some x.bare := by rw [← HXB.out, List.getElem?_map, hx]; rfl
      have hsn : (R1.out.take (j + 1)).foldl bd r0 = bd ((R1.out.take j).foldl bd r0) x.bare := by
        rw [List.take_succ_eq_append_getElem (List.getElem?_eq_some_iff.1 hxe).1, List.foldl_append, (List.getElem?_eq_some_iff.1 hxe).2]
        rfl
      obtain ⟨s, hs⟩ : ∃ s, (R1.out.take j).foldl bd r0 = s := ⟨_, rfl⟩
      rw [hs] at hsn hlp
      obtain ⟨Fr, hFr, hrs, hG⟩ := hlp.rs
      obtain ⟨g, rfl, hg, hcl⟩ := hlp.ev.cells hx
      have x0 : wr.cell? ⟨g, j * 6, none⟩ = some (.int .i64 x.kind) := hcl 0 (.int .i64 x.kind) rfl
      have x1 : wr.cell? ⟨g, j * 6 + 1, none⟩ = some (.int .u8 x.verb) := hcl 1 (.int .u8 x.verb) rfl
      have x2 : wr.cell? ⟨g, j * 6 + 2, none⟩ = some (.int .u8 x.opt) := hcl 2 (.int .u8 x.opt) rfl
      have x3 : wr.cell? ⟨g, j * 6 + 3, none⟩ = some (.slice x.A x.data.length x.c) := hcl 3 (.slice x.A x.data.length x.c) rfl
      have x4 : wr.cell? ⟨g, j * 6 + 4, none⟩ = some (.bool x.long) := hcl 4 (.bool x.long) rfl
      have x5 : wr.cell? ⟨g, j * 6 + 5, none⟩ = some (.bool x.broken) := hcl 5 (.bool x.broken) rfl
      obtain ⟨W3, hW3⟩ : ∃ W3, wr.alloc (.cells #[.int .i64 x.kind, .int .u8 x.verb, .int .u8 x.opt, .slice x.A x.data.length x.c, .bool x.long, .bool x.broken] 165) = W3 := ⟨_, rfl⟩
      have hu3 : Up wr W3 := by rw [← hW3]; exact (Up.refl wr).alloc _
      have hkp3 : Keep F0 W W3 := hlp.kp.up hu3
      have hz3 := hu3.size
      have hb := (hlp.ev.good x (List.mem_of_getElem? hx)).up hu3
      obtain ⟨fn, tmps, assign, body, hyy, hR⟩ := HY.out s x Fr W3 hkp3 (fun k hk => (hFr k hk).imp id (fun h => ⟨h.1, by omega⟩)) ⟨⟨HRK.out _ _ _ _ (fun _ => False) hrs (Keep.of_up hu3) (fun _ _ h => h), hb.mono (fun g hg hf => hG g hg hf)⟩, j, hxe, hs.symm⟩
      have HLP2 := Lib.hid hlp
      have HFR := Lib.hid hFr
      have HG := Lib.hid hG
      have HSN := Lib.hid hsn
      have HR3 := Lib.hid hR
      have HKP3 := Lib.hid hkp3
      have HU3 := Lib.hid hu3
      have HW3 := Lib.hid hW3
      have hjm : (j : Int) < (m : Int) := by omega
      clear hlp hFr hG hsn hR hkp3 hu3 hW3 hrs hb hcl hx hxe hs hz3
      simp only [evVals] at hyy
      gi_wp2
      rw [HW3.out, hyy]
      refine ⟨fun h => by simp [Fence.wide] at h, ?_⟩
      refine HR3.out.mono ?_
      rintro e W4 ⟨rfl, hk4, F2, hF2, hj2⟩
      have HK4 := Lib.hid hk4
      have HF2 := Lib.hid hF2
      have HJ2 := Lib.hid hj2
      clear hk4 hF2 hj2 hyy
      gi_wp2
      go_roundw
      case rel =>
        refine ⟨j + 1, by go_num, by omega, ?_⟩
        rw [HSN.out]
        have z3 := HU3.out.size
        have z4 := HK4.out.size
        have g1 := HLP2.out.g1
        have hFr3 : ∀ k, Fr k → Gr F0 W W3 k := fun k hk => (HFR.out k hk).imp id (fun h => ⟨h.1, by omega⟩)
        refine ⟨HKP3.out.gr (HK4.out.mono hFr3), ⟨F2, fun k hk => ?_, HJ2.out, fun k hk h => ?_⟩, (HLP2.out.ev.up HU3.out).keep HK4.out (fun g hg h => HG.out g hg h), fun k hk => by have := g1 k hk; omega⟩
        · rcases HF2.out k hk with h | h
          · exact (hFr3 k h).imp id (fun h => ⟨h.1, by omega⟩)
          · have := HKP3.out.size; exact .inr ⟨by omega, h.2⟩
        · rcases HF2.out k h with h | h
          · exact HG.out k hk h
          · have := g1 k hk; omega
      case measure => simp [intOf]; omega
    · obtain rfl : j = m := by omega
      have HLE := Lib.hid hlp
      have hfl : R1.out.take j = R1.out := List.take_of_length_le (by have := HXL.out; have := HM.out; omega)
      have HFL2 := Lib.hid hfl
      clear hlp hfl
      gi_wp2
      go_end0
      have hle := HLE.out
      rw [HFL2.out] at hle
      obtain ⟨Fr, h1, h2, h3⟩ := hle.rs
      exact ⟨⟨_, rfl⟩, hle.kp, _, Fr, h1, rfl, h2⟩
end Go.Proofs.YtamfjgioajmnpaaGreatDoor
namespace Go.Proofs.YtamfjgioajmnpaaGreatDoor
open Go.RowKit
set_option linter.unusedVariables false
set_option linter.unusedSimpArgs false
attribute [local go_sem] Oper.semAt_some

def saidB (e : EvT) : Bool := e.kind == 2 || e.kind == 3
def saidL (p : List Int) : List EvT := (feedT RdT.zero p).out.filter saidB
/-- the box of what is collected -/
def SdR (bx : Nat) (r : List EvT) (F : Nat → Prop) (W : World) : Prop := ∃ (A : Option Addr) (c : Nat) (xs : List EvV), xs.map EvV.bare = r ∧ St W 162 bx [.slice A xs.length c] ∧ Row 165 6 W F A xs.length c (xs.flatMap EvV.cells) ∧ F bx ∧ (∀ k, F k → k < W.heap.size) ∧ r.length ≤ 300000
theorem SdR.keep {bx : Nat} {r : List EvT} {F E : Nat → Prop} {W W' : World} (h : SdR bx r F W) (hk : Keep E W W') (he : ∀ k, F k → ¬ E k) : SdR bx r F W' := by
  obtain ⟨A, c, xs, h1, h2, h3, h4, h5, h6⟩ := h
  exact ⟨A, c, xs, h1, h2.keep hk (he _ h4), h3.keep hk (fun g hg => he g (h3.in_ g hg)), h4, fun k hkk => by have := h5 k hkk; have := hk.size; omega, h6⟩
def saidBd (r : List EvT) (e : EvT) : List EvT := if saidB e && decide (r.length < 300000) then r ++ [e] else r
theorem said_fold : ∀ (l : List EvT) (r : List EvT), r.length + l.length ≤ 300000 → l.foldl saidBd r = r ++ l.filter saidB
  | [], r, _ => by simp
  | e :: l, r, h => by
    simp only [List.length_cons] at h
    rw [List.foldl_cons, List.filter_cons]
    unfold saidBd
    by_cases hb : saidB e = true
    · rw [hb]
      have : decide (r.length < 300000) = true := by simp; omega
      simp only [this, Bool.and_self, if_true]
      rw [show (fun r e => if (saidB e && decide (r.length < 300000)) = true then r ++ [e] else r) = saidBd from rfl, said_fold l (r ++ [e]) (by simp; omega)]
      simp
    · have hb' : saidB e = false := by simpa using hb
      rw [hb']
      simp only [Bool.false_and, Bool.false_eq_true, if_false]
      rw [show (fun r e => if (saidB e && decide (r.length < 300000)) = true then r ++ [e] else r) = saidBd from rfl, said_fold l r (by omega)]
theorem bt_noloop {w : World} {F : Nat → Prop} {A : Option Addr} {n c g : Nat} {l : List Int} (h : Bt w F A n c l) (hg : blk A = some g) (hl : ∃ r, w.heap[g]? = some (.loop r)) : False := by
  obtain ⟨r, hr⟩ := hl
  obtain ⟨cur, q, e⟩ := h.tag g hg
  rw [hr] at e
  cases e
theorem ne_sdev : 162 ≠ 165 := by decide
theorem events_val (A : Option Addr) (n c : Nat) (w : World) :
    Calls Tryz.prog 118 #[.slice A n c] w fun e w' => e = .returned (.func (.func 162) #[] #[.pointer (some ⟨w.heap.size, 0, none⟩)]) ∧ w'.cell? ⟨w.heap.size, 0, none⟩ = some (.slice A n c) ∧ Up w w' := by
  go_enter Tryz.func118, Tryz.ntmps118
  go_wp2
  go_ret
  exact ⟨rfl, by simp [go_sem], by (repeat (first | with_reducible exact Up.refl _ | with_reducible refine Up.alloc ?_ _ | with_reducible refine Up.drew ?_ | with_reducible refine Up.drewN ?_ _ | with_reducible refine Up.setCell ?_ (by (try simp) <;> omega) _ | with_reducible assumption | with_reducible refine Up.trans ?_ (by assumption)))⟩
/-- what Said hands over -/
def SaidPost (w : World) (l : List EvT) (e : Ending) (w' : World) : Prop :=
  ∃ (A : Option Addr) (c : Nat) (xs : List EvV), e = .returned (.slice A xs.length c) ∧ xs.map EvV.bare = l ∧ Row 165 6 w' (fun k => w.heap.size ≤ k) A xs.length c (xs.flatMap EvV.cells) ∧ Up w w'
set_option maxRecDepth 100000 in
set_option maxHeartbeats 12800000 in
theorem hsaid_is {n c : Nat} {A : Option Addr} {p : List Int} {Gp : Nat → Prop} {w : World} (hp : Bt w Gp A n c p) (hn : n ≤ 40000) :
    Calls Tryz.prog 74 #[.slice A n c] w (SaidPost w (saidL p)) := by
  obtain ⟨i0, hi, hz0, hz1, hz2⟩ := info_parts info_ev
  have HP := Lib.hid hp
  clear hp
  refine (callsIn_wide (n := 9)).1 ?_
  refine callsIn_of_wp_marks Tryz.func74 rfl trivial ?_ rfl
  simp only [Tryz.ntmps74, List.size_toArray, List.length_cons, List.length_nil, Nat.reduceAdd, Nat.reduceSub, Array.replicate_succ, Array.replicate_zero, List.push_toArray, List.append_toArray, List.nil_append, List.cons_append]
  refine wpIn_wide.2 ?_
  go_wp2_with fail
  refine (events_val _ _ _ _).mono ?_
  rintro e w1 ⟨rfl, hc1, hu1⟩
  have hbx : St w1 162 w.heap.size [.slice none 0 0] := (St.new w 162 [.slice none 0 0] rfl).up hu1
  have zbx := hbx.lt
  simp only [World.size_alloc] at hc1
  have huw : Up w w1 := ((Up.refl w).alloc _).trans hu1
  have h0 : SdR w.heap.size [] (fun k => k = w.heap.size) w1 := ⟨none, 0, [], rfl, hbx, Row.none_, rfl, fun k hk => by subst hk; exact zbx, by simp⟩
  have hlen : (feedT RdT.zero p).out.length ≤ 200000 := by
    have e1 := flushT_out (p.foldl takeT RdT.zero)
    have e2 := foldT_bd p RdT.zero
    have e3 := HP.out.len
    have e4 : RdT.zero.out.length = 0 := rfl
    unfold feedT
    omega
  have HFO := Lib.hid (said_fold (feedT RdT.zero p).out [] (by simp; omega))
  have HIT := Lib.hid (events_it (Rest := SdR w.heap.size) (bd := saidBd) (fun r F W W' E h hk he => SdR.keep h hk he) (fun r F W h => by obtain ⟨A, c, xs, h1, h2, h3, h4, h5, h6⟩ := h; exact h5) h0 hc1 (HP.out.up huw) hn)
  have H0 := Lib.hid h0
  have HUW := Lib.hid huw
  have HLEN := Lib.hid hlen
  clear hbx h0 huw hc1 hu1 hlen hn
  go_wp2_with fail
  refine wpIn_wide.1 (range_s (n := 9) rfl enters_events HIT.out (fun k hk => by subst hk; exact zbx) (fun _ => rfl)
    (fun r x F W W' h hk => ⟨⟨SdR.keep h.1.1 hk (fun k hk hn => hn.1 hk), h.1.2.keep hk (fun g hg hn => bt_noloop h.1.2 hg hn.2)⟩, h.2⟩) (fun r x F W W' h hk => SdR.keep h hk (fun k hk hn => hn.1 hk)) (fun r F W W' h hk => ⟨h.1, SdR.keep h.2 hk (fun k hk hn => hn.1 hk)⟩)
    (fun r x a' W => ∃ B, St W 165 B x.cells ∧ B ≠ w.heap.size ∧ a' = { tmps := #[.slice A n c, undef, .slice none 0 0, .pointer (some ⟨w.heap.size, 0, none⟩), .pointer (some ⟨B, 0, none⟩), .slice A n c, .func (.func 162) #[] #[.pointer (some ⟨w.heap.size + 1, 0, none⟩)], .agg #[.int .i64 x.kind, .int .u8 x.verb, .int .u8 x.opt, .slice x.A x.data.length x.c, .bool x.long, .bool x.broken], undef, undef, undef, undef, undef, undef, undef, undef, undef, undef, undef, undef, undef], defers := [] }) (fun s x a' _ W W' h hc => ?ax) ?assign ?body ?done)
  case ax =>
    obtain ⟨B, h1, h2, h3⟩ := h
    exact ⟨B, hc.same B _ h1 (fun h => h) (.inl rfl), h2, h3⟩
  case assign =>
    rintro l r x F1 W K hk hF1 hJ hK
    have z1 := hk.size
    have zw : w.heap.size < W.heap.size := by omega
    simp only [evVals]
    gi_wp2
    exact hK _ _ ((Up.refl W).alloc _) ⟨W.heap.size, St.new W _ x.cells rfl, by omega, rfl⟩
  case body =>
    rintro l r x F1 a' W hk hF1 ⟨⟨hsd, hbt⟩, j, hj, hrj⟩ ⟨B, hB, hBne, rfl⟩
    have HSD := Lib.hid hsd
    obtain ⟨A2, c2, xs, h1, h2, h3, h4, h5, h6⟩ := hsd
    have b0 := hB.cell 0 (v := .int .i64 x.kind) rfl
    have b1 := hB.cell 1 (v := .int .u8 x.verb) rfl
    have b2 := hB.cell 2 (v := .int .u8 x.opt) rfl
    have b3 := hB.cell 3 (v := .slice x.A x.data.length x.c) rfl
    have b4 := hB.cell 4 (v := .bool x.long) rfl
    have b5 := hB.cell 5 (v := .bool x.broken) rfl
    have k0 := h2.cell 0 (v := .slice A2 xs.length c2) rfl
    have f0 := h2.free 0
    have zB := hB.lt
    have z2 := h2.lt
    have hxl : xs.length = r.length := by rw [← h1, List.length_map]
    have hnd := hbt
    have H1 := Lib.hid h1
    have H2 := Lib.hid h2
    have H3 := Lib.hid h3
    have H4 := Lib.hid h4
    have H5 := Lib.hid h5
    have HK := Lib.hid hk
    have HF1 := Lib.hid hF1
    have HBT := Lib.hid hbt
    have hrl : r.length < 300000 := by
      have hl := HLEN.out
      rw [hrj, said_fold _ [] (by simp; omega)]
      have e1 := List.length_filter_le saidB ((feedT RdT.zero p).out.take j)
      have e2 := List.length_take_le j (feedT RdT.zero p).out
      have e3 : ((feedT RdT.zero p).out.take j).length ≤ (feedT RdT.zero p).out.length := by rw [List.length_take]; omega
      simp only [List.nil_append]
      omega
    have hq1 : xs.length + 1 ≤ maxLen := by simp [maxLen]; omega
    have hq2 : (xs.length + 1) * 48 ≤ 140737488355328 := by omega
    have HRL := Lib.hid hrl
    have HXL := Lib.hid hxl
    have HB := Lib.hid hB
    clear h1 h2 h3 h4 h5 h6 hk hF1 hbt hB hj hrj hxl hnd hrl
    cases k2 : (x.kind == 2)
    · cases k3 : (x.kind == 3)
      · have HS := Lib.hid (show saidBd r x.bare = r by
          unfold saidBd saidB EvV.bare
          simp only [k2, k3]
          rfl)
        gi_wp2
        refine ⟨Keep.refl _ _, F1, fun k hk => .inl hk, ?_⟩
        show SdR w.heap.size (saidBd r x.bare) F1 W
        rw [HS.out]
        exact HSD.out
      · have HS := Lib.hid (show saidBd r x.bare = r ++ [x.bare] by
          unfold saidBd saidB EvV.bare
          simp only [k2, k3]
          rw [show decide (r.length < 300000) = true from by simp; exact HRL.out]
          rfl)
        gi_wp2_with (gi_at_builtin; go_must (refine wpListIn_row rfl 162 rfl 165 i0 _ 6 48 Tryz.underlying162 hi hz0 hz1 hz2 rfl (by decide) rfl (H3.out.up ((Up.refl _).alloc _)) rfl (reads_at W W.heap.size 6 1 x.cells.toArray 165 rfl rfl) (EvV.one x) hq1 hq2 ?_; intro A3 c3 w3 hr3 hg3 hb3; have st3 : St w3 162 w.heap.size [.slice A2 xs.length c2] := (H2.out.alloc _).grown hg3 (H3.out.ne H2.out ne_sdev); have d0 := st3.cell 0 (v := .slice A2 xs.length c2) rfl; have e0 := st3.free 0; have zb3 := st3.lt; have ST3 := Lib.hid st3; have HR3 := Lib.hid hr3; have HG3 := Lib.hid hg3; clear st3 hr3 hg3 hb3))
        have hkf : Keep F1 W (w3.setCell ⟨w.heap.size, 0, none⟩ (.slice A3 (xs.length + 1) c3)) := (((Keep.refl F1 W).alloc _).trans (Keep.grown HG3.out (fun g hg => H3.out.in_ g hg))).setCell (p := ⟨w.heap.size, 0, none⟩) (.inl H4.out) _
        have hl : (xs ++ [x]).length = xs.length + 1 := by simp
        have hr : Row 165 6 (w3.setCell ⟨w.heap.size, 0, none⟩ (.slice A3 (xs.length + 1) c3)) (Gr F1 W (w3.setCell ⟨w.heap.size, 0, none⟩ (.slice A3 (xs.length + 1) c3))) A3 (xs ++ [x]).length c3 ((xs ++ [x]).flatMap EvV.cells) := by
          rw [hl, List.flatMap_append, List.flatMap_singleton]
          exact (HR3.out.struct ST3.out ne_sdev 0 _).gr (fun g hg => hg.imp id (fun e => by simp at e; omega))
        refine ⟨hkf, _, fun k hk => hk, A3, c3, xs ++ [x], ?_, ?_, hr, .inl H4.out, Gr.lt H5.out hkf.size, ?_⟩
        · rw [HS.out, List.map_append, H1.out]; rfl
        · rw [hl]; exact ST3.out.set 0 _
        · rw [HS.out]; simp; have := HRL.out; omega
    · cases k3 : (x.kind == 3)
      all_goals
        have HS := Lib.hid (show saidBd r x.bare = r ++ [x.bare] by
          unfold saidBd saidB EvV.bare
          simp only [k2, k3]
          rw [show decide (r.length < 300000) = true from by simp; exact HRL.out]
          rfl)
        gi_wp2_with (gi_at_builtin; go_must (refine wpListIn_row rfl 162 rfl 165 i0 _ 6 48 Tryz.underlying162 hi hz0 hz1 hz2 rfl (by decide) rfl (H3.out.up ((Up.refl _).alloc _)) rfl (reads_at W W.heap.size 6 1 x.cells.toArray 165 rfl rfl) (EvV.one x) hq1 hq2 ?_; intro A3 c3 w3 hr3 hg3 hb3; have st3 : St w3 162 w.heap.size [.slice A2 xs.length c2] := (H2.out.alloc _).grown hg3 (H3.out.ne H2.out ne_sdev); have d0 := st3.cell 0 (v := .slice A2 xs.length c2) rfl; have e0 := st3.free 0; have zb3 := st3.lt; have ST3 := Lib.hid st3; have HR3 := Lib.hid hr3; have HG3 := Lib.hid hg3; clear st3 hr3 hg3 hb3))
        have hkf : Keep F1 W (w3.setCell ⟨w.heap.size, 0, none⟩ (.slice A3 (xs.length + 1) c3)) := (((Keep.refl F1 W).alloc _).trans (Keep.grown HG3.out (fun g hg => H3.out.in_ g hg))).setCell (p := ⟨w.heap.size, 0, none⟩) (.inl H4.out) _
        have hl : (xs ++ [x]).length = xs.length + 1 := by simp
        have hr : Row 165 6 (w3.setCell ⟨w.heap.size, 0, none⟩ (.slice A3 (xs.length + 1) c3)) (Gr F1 W (w3.setCell ⟨w.heap.size, 0, none⟩ (.slice A3 (xs.length + 1) c3))) A3 (xs ++ [x]).length c3 ((xs ++ [x]).flatMap EvV.cells) := by
          rw [hl, List.flatMap_append, List.flatMap_singleton]
          exact (HR3.out.struct ST3.out ne_sdev 0 _).gr (fun g hg => hg.imp id (fun e => by simp at e; omega))
        refine ⟨hkf, _, fun k hk => hk, A3, c3, xs ++ [x], ?_, ?_, hr, .inl H4.out, Gr.lt H5.out hkf.size, ?_⟩
        · rw [HS.out, List.map_append, H1.out]; rfl
        · rw [hl]; exact ST3.out.set 0 _
        · rw [HS.out]; simp; have := HRL.out; omega
  case done =>
    rintro D r F2 W hD hk hF2 ⟨hr, hsd⟩ hK
    obtain ⟨A2, c2, xs, h1, h2, h3, h4, h5, h6⟩ := hsd
    have k0 := h2.cell 0 (v := .slice A2 xs.length c2) rfl
    have z2 := h2.lt
    have H1 := Lib.hid h1
    have H3 := Lib.hid h3
    have HK := Lib.hid hK
    have HKP := Lib.hid hk
    have HF2 := Lib.hid hF2
    have HR := Lib.hid hr
    clear h1 h2 h3 h4 h5 h6 hK hk hF2 hr
    go_wp2
    have hkD : Keep (fun k => k = D) W (W.putObj D (.deferred none)) := ⟨rfl, rfl, rfl, by simp, fun k _ hk => World.putObj_heap_other hk⟩
    have h3 := H3.out.keep hkD (fun g hg e => by
      obtain ⟨cur, q, e1⟩ := H3.out.tag hg
      subst e
      rw [HK.out] at e1
      cases e1)
    have hz := HUW.out.size
    refine ⟨by simp, .inl ⟨_, _, rfl, run_takeDeferred HK.out, ?_⟩⟩
    refine ⟨_, results_tmp rfl _ _ _, A2, c2, xs, rfl, ?_, h3.mono (fun g hg => ?_), (HUW.out.keep HKP.out (fun i hi => by omega)).keep hkD (fun i hi => by omega)⟩
    · rw [H1.out, HR.out, HFO.out]; rfl
    · rcases HF2.out g hg with h | h
      · have h : g = w.heap.size := h
        omega
      · omega
end Go.Proofs.YtamfjgioajmnpaaGreatDoor
