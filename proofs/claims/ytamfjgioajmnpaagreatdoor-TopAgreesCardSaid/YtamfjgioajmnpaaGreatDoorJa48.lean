/-
What the law's host makes of bytes: it hears each word. Conditions: words, few.
How TopAgrees' session and its host's machine stand; what Bytes, Out and hear make of words. No condition.
TopAgrees' two ends from step to step: an ask, a word more under way, both hear all. No condition.
-/
import Derived.Test.YtamfjgioajmnpaaGreatDoorJa47
import Derived.Test.YtamfjgioajmnpaaGreatDoorJa38
import Derived.Test.YtamfjgioajmnpaaGreatDoorJa19
import Derived.Test.YtamfjgioajmnpaaGreatDoorJa46
namespace Go.Proofs.YtamfjgioajmnpaaGreatDoor
open Go.RowKit
set_option linter.unusedVariables false
set_option linter.unusedSimpArgs false
attribute [local go_sem] Oper.semAt_some

def LhPost (w : World) (bm : Nat) (S' : Nat → Nat → Int) (G : Nat → Nat → Bool) (L : List (Int × Int)) (e : Ending) (w' : World) : Prop :=
  ∃ A c, e = .returned (.slice A (wordsB L).length c) ∧ Row 5 1 w' (fun k => w.heap.size ≤ k) A (wordsB L).length c (bs (wordsB L)) ∧ MAt w' bm S' G ∧ Keep (fun k => k = bm) w w'
theorem hearsS_take (G : Nat → Nat → Bool) : ∀ (Y : List (Int × Int)) (S : Nat → Nat → Int) {j : Nat} {y : Int × Int}, Y[j]? = some y → hearsS G S (Y.take (j + 1)) = hearS y.1 y.2.toNat (hearsS G S (Y.take j)) G ∧ hearsL G S (Y.take (j + 1)) = hearsL G S (Y.take j) ++ hearL y.1 y.2.toNat (hearsS G S (Y.take j)) G
  | [], S, j, y, h => by simp at h
  | x :: Y, S, 0, y, h => by
    simp at h
    subst h
    simp [hearsS, hearsL]
  | x :: Y, S, j + 1, y, h => by
    simp at h
    have := hearsS_take G Y (hearS x.1 x.2.toNat S G) h
    simp only [List.take_succ_cons, hearsS, hearsL]
    exact ⟨this.1, by rw [this.2, List.append_assoc]⟩
set_option maxRecDepth 100000 in
set_option maxHeartbeats 6400000 in
theorem lawhear_is {w : World} {bm n c : Nat} {A : Option Addr} {Gp : Nat → Prop} {Y : List (Int × Int)} {S : Nat → Nat → Int} {G : Nat → Nat → Bool} (hm : MAt w bm S G) (zb : bm < w.heap.size) (hp : Bt w Gp A n c (wordsB Y)) (hY : WordsOk Y) (hn : n ≤ 40000) :
    Calls Tryz.prog 31 #[.pointer (some ⟨bm, 0, none⟩), .slice A n c] w (LhPost w bm (hearsS G S Y) G (hearsL G S Y)) := by
  obtain ⟨i0, hi, hz0, hz1, hz2⟩ := info_parts info_u8
  have HSD := Lib.hid (hsaid_is hp hn)
  rw [saidW hY] at HSD
  have hYn : Y.length ≤ 40000 := by have := hp.len; rw [wordsB_len] at this; omega
  have HM := Lib.hid hm
  have HY := Lib.hid hY
  clear hm hp hY
  go_enter Tryz.func31, Tryz.ntmps31
  go_wp2_with fail
  refine HSD.out.mono ?_
  rintro e w1 ⟨A1, c1, xs, rfl, hxb, hrow, hu1⟩
  obtain ⟨m, hmx⟩ : ∃ m, xs.length = m := ⟨_, rfl⟩
  have hmY : m = Y.length := by have h1 := congrArg List.length hxb; rw [List.length_map, List.length_map] at h1; omega
  have HXB := Lib.hid hxb
  have HROW := Lib.hid hrow
  have HU1 := Lib.hid hu1
  have HM1 := Lib.hid (HM.out.upw hu1)
  have z1 := hu1.size
  have hmI : (m : Int) ≤ 40000 := by omega
  have HMX := Lib.hid hmx
  have HMY := Lib.hid hmY
  simp only [hmx]
  clear hxb hrow hu1 hmx hmY
  go_wp2_with fail
  go_loopw [5, 15] (fun v i wr => ∃ (j : Nat) (A5 : Option Addr) (c5 : Nat), j ≤ m ∧ i = .int .i64 (j : Int) ∧ v = .slice A5 (wordsB (hearsL G S (Y.take j))).length c5 ∧ Row 5 1 wr (fun k => w1.heap.size ≤ k) A5 (wordsB (hearsL G S (Y.take j))).length c5 (bs (wordsB (hearsL G S (Y.take j)))) ∧ MAt wr bm (hearsS G S (Y.take j)) G ∧ Keep (fun k => k = bm) w1 wr) (fun _ i _ => m - (intOf i).toNat)
  case atStart => exact ⟨0, none, 0, by omega, rfl, rfl, Row.none_, HM1.out, Keep.refl _ _⟩
  case round =>
    obtain ⟨j, A5, c5, hj, rfl, rfl, hr5, hmr, hkr⟩ := hrel
    by_cases hlt : j < m
    · obtain ⟨x, hx⟩ : ∃ x, xs[j]? = some x := ⟨_, List.getElem?_eq_getElem (by have := HMX.out; omega)⟩
      obtain ⟨y, hy⟩ : ∃ y, Y[j]? = some y := ⟨_, List.getElem?_eq_getElem (by have := HMY.out; omega)⟩
      have hxe : x.bare = evW y := by
        have h1 : (xs.map EvV.bare)[j]? = some x.bare := by rw [List.getElem?_map, hx]; rfl
        rw [HXB.out, List.getElem?_map, hy] at h1
        simpa using h1.symm
      have ev : x.verb = y.1 := congrArg EvT.verb hxe
      have eo : x.opt = y.2 := congrArg EvT.opt hxe
      obtain ⟨hyv, hy0, hy1⟩ := HY.out y (List.mem_of_getElem? hy)
      obtain ⟨hs1, hs2⟩ := hearsS_take G Y S hy
      obtain ⟨k, hk⟩ : ∃ k, y.2.toNat = k := ⟨_, rfl⟩
      have hk2 : x.opt = (k : Int) := by omega
      have hk6 : k < 256 := by omega
      rw [hk, ← ev] at hs1 hs2
      obtain ⟨Sj, hSj⟩ : ∃ Sj, hearsS G S (Y.take j) = Sj := ⟨_, rfl⟩
      obtain ⟨Lj, hLj⟩ : ∃ Lj, hearsL G S (Y.take j) = Lj := ⟨_, rfl⟩
      rw [hSj] at hs1 hs2 hmr
      rw [hLj] at hs2 hr5 ⊢
      have hLn : Lj.length ≤ 40000 := by
        have h1 := hearsL_len G (Y.take j) S
        rw [hLj, List.length_take] at h1
        omega
      have hrw := HROW.out.keep hkr (fun g hg e => by have := HROW.out.in_ g hg; omega)
      obtain ⟨g, off, e1, hg⟩ := hrw.reads.form (by have := HMX.out; omega)
      subst e1
      have hrow2 := row_at (enc := EvV.cells) (k := 6) (fun _ => rfl) hrw.reads hx (by decide)
      have x0 : wr.cell? ⟨g, off + j * 6, none⟩ = some (.int .i64 x.kind) := hrow2 0 (.int .i64 x.kind) rfl
      have x1 := hrow2 1 (.int .u8 x.verb) rfl
      have x2 := hrow2 2 (.int .u8 x.opt) rfl
      have x3 := hrow2 3 (.slice x.A x.data.length x.c) rfl
      have x4 := hrow2 4 (.bool x.long) rfl
      have x5 := hrow2 5 (.bool x.broken) rfl
      have hjm : (j : Int) < (m : Int) := by omega
      have z1r := hkr.size
      have zbr : bm < (wr.alloc (.cells #[.int .i64 x.kind, .int .u8 x.verb, .int .u8 x.opt, .slice x.A x.data.length x.c, .bool x.long, .bool x.broken] 165)).heap.size := by simp; omega
      have HH := Lib.hid (hear_at (v := x.verb) (o := x.opt) k (hmr.up ((Up.refl wr).alloc (.cells #[.int .i64 x.kind, .int .u8 x.verb, .int .u8 x.opt, .slice x.A x.data.length x.c, .bool x.long, .bool x.broken] 165)) (by omega)) zbr hk6 hk2)
      have HR5 := Lib.hid hr5
      have HKR := Lib.hid hkr
      have HS1 := Lib.hid hs1
      have HS2 := Lib.hid hs2
      have HFORM := hearL_form x.verb k Sj G
      obtain ⟨Lx, hLx⟩ : ∃ Lx, hearL x.verb k Sj G = Lx := ⟨_, rfl⟩
      obtain ⟨Sx, hSx⟩ : ∃ Sx, hearS x.verb k Sj G = Sx := ⟨_, rfl⟩
      rw [hLx, hSx] at HH
      rw [hLx] at HFORM HS2
      rw [hSx] at HS1
      have HLN := Lib.hid hLn
      clear hr5 hkr hs1 hs2 hxe hx hy hk hk2 ev eo hyv hy0 hy1 hrw hrow2 hSj hLj hmr hLx hSx hLn
      go_wp2_with (go_at_call 75; refine HH.out.mono ?_; rintro e w2 ⟨A2, n2, c2, rfl, hn2, hr2, hf2, hm2, hk2⟩; have HN2 := Lib.hid hn2; have HR2 := Lib.hid hr2; have HM2 := Lib.hid hm2; have HK2 := Lib.hid hk2; clear hn2 hr2 hf2 hm2 hk2)
      have hkw2 : Keep (fun k => k = bm) w1 w2 := (HKR.out.up ((Up.refl wr).alloc _)).trans HK2.out
      have hr52 : Row 5 1 w2 (fun k => w1.heap.size ≤ k) A5 (wordsB Lj).length c5 (bs (wordsB Lj)) := (HR5.out.up ((Up.refl wr).alloc _)).keep HK2.out (fun g hg e => by have := HR5.out.in_ g hg; omega)
      have HR52 := Lib.hid hr52
      have HKW2 := Lib.hid hkw2
      have z2 := HK2.out.size
      clear hr52 hkw2
      rcases HFORM with rfl | ⟨q, rfl, hq0, hq1⟩
      · obtain rfl : n2 = 0 := HN2.out
        refine wp_loop_rounds 1 ?_
        rw [rounds_succ]
        go_wp2
        go_roundw
        case rel => exact ⟨j + 1, A5, c5, by omega, by go_num, by rw [HS2.out, List.append_nil], by rw [HS2.out, List.append_nil]; exact HR52.out, by rw [HS1.out]; exact HM2.out, HKW2.out⟩
        case measure => simp [intOf]; omega
      · obtain rfl : n2 = 1 := HN2.out
        obtain ⟨g2, o2, e2, hg2⟩ := HR2.out.form (by omega)
        subst e2
        obtain ⟨zg2, u0, hu0, hc0⟩ := HR2.out.at_ (j := 0) (by omega)
        obtain ⟨-, u1', hu1', hc1⟩ := HR2.out.at_ (j := 1) (by omega)
        obtain rfl : Value.int .u8 q = u0 := by simpa [ms] using hu0
        obtain rfl : Value.int .u8 (k : Int) = u1' := by simpa [ms] using hu1'
        have m0 : w2.cell? ⟨g2, o2, none⟩ = some (.int .u8 q) := hc0
        have m1 : w2.cell? ⟨g2, o2 + 1, none⟩ = some (.int .u8 (k : Int)) := hc1
        have hq1' : (wordsB Lj).length + 3 ≤ maxLen := by rw [wordsB_len]; have := HLN.out; simp [maxLen]; omega
        have hq2' : ((wordsB Lj).length + 3) * 1 ≤ 140737488355328 := by rw [wordsB_len]; have := HLN.out; omega
        clear hu0 hu1' hc0 hc1
        refine wp_loop_rounds 2 ?_
        rw [rounds_succ]
        go_wp2_with (first
          | (go_at_call 30; refine (msg3_is _ _ _).mono ?_; rintro e w3 ⟨A3, c3, rfl, hr3, hu3⟩; have HR3 := Lib.hid hr3; have HU3 := Lib.hid (((Up.refl w2).alloc _).trans hu3); clear hr3 hu3)
          | (at_builtin; go_must (refine wpList_row rfl 30 rfl 5 i0 _ 1 1 Tryz.underlying30 hi hz0 hz1 hz2 rfl (by decide) rfl (HR52.out.up HU3.out) rfl HR3.out (one_bs [255, q, (k : Int)]) hq1' hq2' ?_; intro A4 c4 w4 hr4 hg4 hb4; have HR4 := Lib.hid hr4; have HG4 := Lib.hid hg4; clear hr4 hg4 hb4)))
        all_goals (try rw [rounds_succ])
        all_goals go_wp2
        have hkg : Keep (fun k => w1.heap.size ≤ k) w3 w4 := Keep.grown HG4.out (fun g hg => HR5.out.in_ g hg)
        have z3 := HU3.out.size
        have z2w := HKW2.out.size
        have zb2 : bm < w2.heap.size := by omega
        refine ⟨⟨j + 1, A4, c4, by omega, by go_num, by rw [HS2.out, wordsB_app, List.length_append]; rfl, ?_, ?_, (HKW2.out.up HU3.out).past2 hkg (fun k hk => .inl hk)⟩, by simp [intOf]; omega⟩
        · have h4 := HR4.out.mono (G := fun k => w1.heap.size ≤ k) (fun g hg => by
            rcases hg with h | h
            · exact h
            · show w1.heap.size ≤ g
              have h' : g = w3.heap.size := h
              omega)
          rw [HS2.out, wordsB_app, List.length_append, bs_app]
          exact h4
        · rw [HS1.out]
          exact (HM2.out.upw HU3.out).kept hkg (by omega) (by show ¬ _ ≤ _; omega)
    · obtain rfl : j = m := by omega
      have hYj : Y.take j = Y := List.take_of_length_le (by have := HMY.out; omega)
      rw [hYj] at hr5 hmr ⊢
      have HF := Lib.hid (And.intro hr5 (And.intro hmr hkr))
      clear hr5 hmr hkr hYj
      go_wp2_with fail
      go_ret
      refine ⟨A5, c5, rfl, HF.out.1.mono (fun g hg => by have := hg; omega), HF.out.2.1, (Keep.of_up HU1.out).trans HF.out.2.2⟩
end Go.Proofs.YtamfjgioajmnpaaGreatDoor
namespace Go.Proofs.YtamfjgioajmnpaaGreatDoor
open Go.RowKit
set_option linter.unusedVariables false
set_option linter.unusedSimpArgs false

/-- what stays of a link between words -/
structure LkC (L : LkT) (S : Nat → Nat → Int) (G : Nat → Nat → Bool) : Prop where
  st : L.rd.st = 0
  data : L.rd.data = []
  out : L.rd.out = []
  sub : L.rd.sub.length ≤ 256
  S : L.S = S
  G : L.G = G
/-- the session and the host's machine, apart -/
structure AgS (w0 : World) (b bm : Nat) (S0 : SsT) (L : LkT) (F : Nat → Prop) (Sm : Nat → Nat → Int) (Gm : Nat → Nat → Bool) (W : World) : Prop where
  ses : SesAt W b F L S0
  mac : MAt W bm Sm Gm
  zb : bm < W.heap.size
  nb : ¬ F bm
  new : ∀ k, F k → w0.heap.size ≤ k
  newb : w0.heap.size ≤ bm
  up : Up w0 W
section
variable {w0 W W' : World} {b bm : Nat} {S0 : SsT} {L : LkT} {F E Gp : Nat → Prop} {Sm : Nat → Nat → Int} {Gm : Nat → Nat → Bool}
theorem AgS.keep (h : AgS w0 b bm S0 L F Sm Gm W) (ht : TabW w0) (hk : Keep E W W') (hE : ∀ k, E k → w0.heap.size ≤ k ∧ ¬ F k ∧ k ≠ bm) : AgS w0 b bm S0 L F Sm Gm W' :=
  ⟨h.ses.keep hk (fun k hk he => (hE k he).2.1 hk) (fun e => by have := (hE _ e).1; have := ht.lt; omega), h.mac.kept hk h.zb (fun e => (hE _ e).2.2 rfl), Nat.lt_of_lt_of_le h.zb hk.size, h.nb, h.new, h.newb, h.up.keep hk (fun k hk => (hE k hk).1)⟩
theorem AgS.upw (h : AgS w0 b bm S0 L F Sm Gm W) (hu : Up W W') : AgS w0 b bm S0 L F Sm Gm W' :=
  ⟨h.ses.up hu, h.mac.up hu h.zb, Nat.lt_of_lt_of_le h.zb hu.size, h.nb, h.new, h.newb, h.up.trans hu⟩
/-- the words under way to the session, as they lie -/
def WayR (w0 : World) (bm : Nat) (F : Nat → Prop) (Y : List (Int × Int)) (A : Option Addr) (c : Nat) (W : World) : Prop := Row 5 1 W (fun k => w0.heap.size ≤ k ∧ ¬ F k ∧ k ≠ bm) A (wordsB Y).length c (bs (wordsB Y))
theorem words_bl {Y : List (Int × Int)} (hY : WordsOk Y) : BL (wordsB Y) := by
  intro x hx
  unfold wordsB at hx
  obtain ⟨y, hy, hx⟩ := List.mem_flatMap.1 hx
  obtain ⟨h1, h2, h3⟩ := hY y hy
  have := verb_bd h1
  simp only [List.mem_cons, List.not_mem_nil, or_false] at hx
  rcases hx with rfl | rfl | rfl <;> omega
set_option maxHeartbeats 1600000 in
theorem ag_bytes {Y : List (Int × Int)} {A : Option Addr} {c : Nat} {S1 : Nat → Nat → Int} {G1 : Nat → Nat → Bool} (h : AgS w0 b bm S0 L F Sm Gm W) (hc : LkC L S1 G1) (ho : L.out = []) (hr : WayR w0 bm F Y A c W) (hY : WordsOk Y) (hn : Y.length ≤ 60) :
    Calls Tryz.prog 14 #[.pointer (some ⟨b, 0, none⟩), .slice A (wordsB Y).length c] W fun e w' => ∃ F' L', e = .returned (.int .i64 0) ∧ AgS w0 b bm S0 L' F' Sm Gm w' ∧ LkC L' (hearsS G1 S1 Y) G1 ∧ L'.out = wordsB (hearsL G1 S1 Y) := by
  have hlen := wordsB_len Y
  obtain ⟨v, hfd⟩ := feedW Y L.rd hc.st hc.data hY
  rw [hc.out, List.nil_append] at hfd
  obtain ⟨L', hf, hw⟩ := step_words (bdS fun T _ => T) (S0, 0) Y { L with rd := { feedT L.rd (wordsB Y) with out := [] } }
  have houts : (feedT L.rd (wordsB Y)).out = Y.map evW := by rw [hfd]
  have hb : Bt W (fun k => ¬ F k) A (wordsB Y).length c (wordsB Y) := Bt.of_row (hr.mono (fun k hk => hk.2.1)) (words_bl hY)
  refine (sbytes_is (hs := fun T _ => T) (fin := (L', (S0, 0))) h.ses hb (fun k hk => hk) (by omega) (by simp [hc.data]) (by simp [hc.out]) hc.sub ?_ ?_ (by rw [houts]; exact hf)).mono ?_
  · intro j e he
    rw [houts] at he ⊢
    exact tk_words _ _ hY (by show L.out.length + _ ≤ _; rw [ho]; simp; omega) he
  · intro j e y he hy
    rw [houts] at he
    obtain ⟨x, -, rfl⟩ := List.mem_map.1 (List.mem_of_getElem? he)
    rw [take_quiet _ (evW x) (by simp [evW]) (.inl rfl)] at hy
    cases hy
  · rintro e w' ⟨rfl, h1, h2⟩
    refine ⟨_, L', rfl, ⟨h1, h.mac.kept h2 h.zb h.nb, Nat.lt_of_lt_of_le h.zb h2.size, fun e => ?_, fun k hk => ?_, h.newb, h.up.keep h2 h.new⟩, ⟨?_, ?_, ?_, ?_, ?_, ?_⟩, ?_⟩
    · rcases e with e | e
      · exact h.nb e
      · have := h.zb; omega
    · rcases hk with hk | hk
      · exact h.new k hk
      · have := h.up.size; omega
    · rw [hw.rd]; show (feedT L.rd (wordsB Y)).st = 0; rw [hfd]; exact hc.st
    · rw [hw.rd]; show (feedT L.rd (wordsB Y)).data = []; rw [hfd]; exact hc.data
    · rw [hw.rd]
    · rw [hw.rd]; show (feedT L.rd (wordsB Y)).sub.length ≤ 256; rw [hfd]; exact hc.sub
    · rw [hw.S]; show hearsS L.G L.S Y = _; rw [hc.S, hc.G]
    · rw [hw.G]; exact hc.G
    · rw [hw.out]; show L.out ++ wordsB (hearsL L.G L.S Y) = _; rw [hc.S, hc.G, ho, List.nil_append]
theorem ag_out (h : AgS w0 b bm S0 L F Sm Gm W) :
    Calls Tryz.prog 17 #[.pointer (some ⟨b, 0, none⟩)] W fun e w' => ∃ A c F', e = .returned (.slice A L.out.length c) ∧ Bt w' (fun _ => True) A L.out.length c L.out ∧ AgS w0 b bm S0 { L with out := [] } F' Sm Gm w' := by
  refine (sout_is h.ses).mono ?_
  rintro e w' ⟨A, c, G1, F1, rfl, hb, hs, h1, h2, h3, hk, hz⟩
  exact ⟨A, c, F1, rfl, hb.mono (fun _ _ => trivial), ⟨hs, h.mac.kept hk h.zb h.nb, by rw [hz]; exact h.zb, fun e => h.nb (h1 _ e), fun k hk => h.new k (h1 k hk), h.newb, h.up.keep hk h.new⟩⟩
theorem ag_out2 {l : List Int} (h : AgS w0 b bm S0 L F Sm Gm W) (hl : L.out = l) :
    Calls Tryz.prog 17 #[.pointer (some ⟨b, 0, none⟩)] W fun e w' => ∃ A c F', e = .returned (.slice A l.length c) ∧ Bt w' (fun _ => True) A l.length c l ∧ AgS w0 b bm S0 { L with out := [] } F' Sm Gm w' := by
  subst hl
  exact ag_out h
theorem ag_hear {Y : List (Int × Int)} {A : Option Addr} {n c : Nat} (ht : TabW w0) (h : AgS w0 b bm S0 L F Sm Gm W) (hb : Bt W Gp A n c (wordsB Y)) (hY : WordsOk Y) (hn : n ≤ 40000) :
    Calls Tryz.prog 31 #[.pointer (some ⟨bm, 0, none⟩), .slice A n c] W fun e w' => ∃ A' c', e = .returned (.slice A' (wordsB (hearsL Gm Sm Y)).length c') ∧ AgS w0 b bm S0 L F (hearsS Gm Sm Y) Gm w' ∧ WayR w0 bm F (hearsL Gm Sm Y) A' c' w' := by
  refine (lawhear_is h.mac h.zb hb hY hn).mono ?_
  rintro e w' ⟨A', c', rfl, hr, hm, hk⟩
  refine ⟨A', c', rfl, ⟨h.ses.keep hk (fun k hf e => h.nb (by have e' : k = bm := e; rw [← e']; exact hf)) (fun e => ?_), hm, Nat.lt_of_lt_of_le h.zb hk.size, h.nb, h.new, h.newb, h.up.keep hk (fun k e => by have e' : k = bm := e; rw [e']; exact h.newb)⟩, hr.mono (fun k hk => ⟨Nat.le_trans h.up.size hk, fun e => ?_, fun e => ?_⟩)⟩
  · have e' : 4 = bm := e
    have := h.newb
    have := ht.lt
    omega
  · have := h.ses.lt k e
    have hk' : W.heap.size ≤ k := hk
    omega
  · have := h.zb
    have hk' : W.heap.size ≤ k := hk
    omega
end
/-- both hear all that is under way -/
theorem ag_round {G : Nat → Nat → Nat → Bool} {S : Nat → Nat → Nat → Int} {Y : Nat → List (Int × Int)} {f : Nat → Nat → Nat} (h : Ends G S Y f) (h0 : Y 0 = []) :
    ∃ S' Y' f', Ends G S' Y' f' ∧ Y' 0 = [] ∧ S' 1 = hearsS (G 1) (S 1) (Y 1) ∧ S' 0 = hearsS (G 0) (S 0) (hearsL (G 1) (S 1) (Y 1)) ∧ Y' 1 = hearsL (G 0) (S 0) (hearsL (G 1) (S 1) (Y 1)) ∧ (Y' 1).length + sum8 f' ≤ sum8 f ∧ WordsOk (hearsL (G 1) (S 1) (Y 1)) ∧ (hearsL (G 1) (S 1) (Y 1)).length ≤ sum8 f := by
  obtain ⟨f1, h1, b1⟩ := ends_hears (e := 1) (by omega) (Y 1) h rfl
  rw [h0, List.nil_append] at h1
  simp only [Nat.sub_self] at h1
  have hy1 : set1 (set1 Y 1 []) 0 (hearsL (G 1) (S 1) (Y 1)) 0 = hearsL (G 1) (S 1) (Y 1) := set1_same _ _ _
  have hw := Ends.words h1 (e := 0) (by omega)
  rw [hy1] at hw
  obtain ⟨f2, h2, b2⟩ := ends_hears (e := 0) (by omega) _ h1 hy1
  rw [set1_other S _ (show (0 : Nat) ≠ 1 by omega)] at h2 b2
  refine ⟨_, _, f2, h2, ?_, ?_, ?_, ?_, ?_, hw, by omega⟩
  · rw [set1_other _ _ (by omega), set1_same]
  · rw [set1_other _ _ (by omega), set1_same]
  · rw [set1_same]
  · simp only [Nat.sub_zero]
    rw [set1_same, set1_other _ _ (by omega), set1_same, List.nil_append]
  · simp only [Nat.sub_zero]
    rw [set1_same, set1_other _ _ (by omega), set1_same, List.nil_append]
    omega
end Go.Proofs.YtamfjgioajmnpaaGreatDoor
namespace Go.Proofs.YtamfjgioajmnpaaGreatDoor
open Go.RowKit
set_option linter.unusedVariables false
set_option linter.unusedSimpArgs false

/-- what isn't asked changes no state -/
theorem ask_stays {S : Nat → Nat → Int} {i k : Nat} {t : Bool} (hi : i < 2) (hK : askK t (S i k) = false) : askS (i : Int) k t S = S := by
  have hs : isSide (i : Int) := by unfold isSide; omega
  unfold askS
  rw [if_pos hs]
  funext i' o'
  rw [Int.toNat_natCast]
  by_cases h : i' = i ∧ o' = k
  · obtain ⟨rfl, rfl⟩ := h
    rw [if_pos ⟨rfl, rfl⟩]
    cases t
    · simp [askK, askOffK, askN, askOffN] at hK ⊢
      simp [hK]
    · simp [askK, askOnK, askN, askOnN] at hK ⊢
      simp [hK]
  · rw [if_neg h]
/-- two ends: a asks, s words heard; Yw are the words that lie, K are to be added -/
structure AgX (w0 : World) (b bm : Nat) (G : Nat → Nat → Nat → Bool) (a s : Nat) (Yw K : List (Int × Int)) (A : Option Addr) (c : Nat) (wr : World) (L : LkT) (F : Nat → Prop) (S : Nat → Nat → Nat → Int) (Y : Nat → List (Int × Int)) (f : Nat → Nat → Nat) : Prop where
  st : AgS w0 b bm lay0 L F (S 0) (G 0) wr
  lk : LkC L (S 1) (G 1)
  out : L.out = []
  way : WayR w0 bm F Yw A c wr
  ends : Ends G S Y f
  y0 : Y 0 = []
  y1 : Y 1 = Yw ++ K
  bd : s + (Y 1).length + sum8 f ≤ 2 * a
def AgI (w0 : World) (b bm : Nat) (G : Nat → Nat → Nat → Bool) (a s : Nat) (Yw K : List (Int × Int)) (A : Option Addr) (c : Nat) (wr : World) : Prop := ∃ L F S Y f, AgX w0 b bm G a s Yw K A c wr L F S Y f
section
variable {w0 W W' : World} {b bm a s c : Nat} {G : Nat → Nat → Nat → Bool} {Yw K : List (Int × Int)} {A : Option Addr} {L : LkT} {F : Nat → Prop} {S : Nat → Nat → Nat → Int} {Y : Nat → List (Int × Int)} {f : Nat → Nat → Nat}
theorem AgX.upw (h : AgX w0 b bm G a s Yw K A c W L F S Y f) (hu : Up W W') : AgX w0 b bm G a s Yw K A c W' L F S Y f :=
  ⟨h.st.upw hu, h.lk, h.out, Row.up h.way hu, h.ends, h.y0, h.y1, h.bd⟩
theorem AgI.upw (h : AgI w0 b bm G a s Yw K A c W) (hu : Up W W') : AgI w0 b bm G a s Yw K A c W' := by
  obtain ⟨L, F, S, Y, f, h⟩ := h
  exact ⟨L, F, S, Y, f, h.upw hu⟩
theorem AgX.words (h : AgX w0 b bm G a s Yw K A c W L F S Y f) : WordsOk Yw := fun x hx => h.ends.words (e := 1) (by omega) x (by rw [h.y1]; simp [hx])
theorem AgX.len (h : AgX w0 b bm G a s Yw K A c W L F S Y f) : s + Yw.length ≤ 2 * a := by
  have h1 := h.bd
  rw [h.y1, List.length_append] at h1
  omega
/-- what Ask makes of the ends -/
def AskD (w0 : World) (b bm : Nat) (G : Nat → Nat → Nat → Bool) (a s : Nat) (Yw : List (Int × Int)) (A : Option Addr) (c : Nat) (k : Int) (e : Ending) (w' : World) : Prop :=
  ∃ Am cm K E, e = .returned (.tuple #[.slice Am K.length cm, .int .i64 E]) ∧ (E = 0 ∨ E = 6) ∧ (K = [] ∨ ∃ x, K = [(x, k)] ∧ 0 ≤ x ∧ x ≤ 255) ∧ Reads w' w'.heap.size 2 Am K.length (ms K) ∧ AgI w0 b bm G (if E = 0 then a + 1 else a) s Yw K A c w'
theorem ag_ask {i k : Nat} {t : Bool} (ht : TabW w0) (h : AgX w0 b bm G a s Yw [] A c W L F S Y f) (hi : i < 2) (hk : k < 48) :
    Calls Tryz.prog 29 #[.pointer (some ⟨bm, 0, none⟩), .int .i64 (i : Int), .int .u8 (k : Int), .bool t] W (AskD w0 b bm G a s Yw A c (k : Int)) := by
  refine (ask_at (i := (i : Int)) (t := t) k h.st.mac h.st.zb (by omega) rfl).mono ?_
  rintro e w' ⟨Am, nm, cm, rfl, rfl, hr, hf, hm, hk'⟩
  have hst : AgS w0 b bm lay0 L F (askS (i : Int) k t (S 0)) (G 0) w' := by
    have hs := h.st
    refine ⟨hs.ses.keep hk' (fun k hf e => hs.nb (by have e' : k = bm := e; rw [← e']; exact hf)) (fun e => ?_), hm, Nat.lt_of_lt_of_le hs.zb hk'.size, hs.nb, hs.new, hs.newb, hs.up.keep hk' (fun k e => by have e' : k = bm := e; rw [e']; exact hs.newb)⟩
    have e' : 4 = bm := e
    have := hs.newb
    have := ht.lt
    omega
  have hway : WayR w0 bm F Yw A c w' := Row.keep h.way hk' (fun g hg e => by have e' : g = bm := e; exact (h.way.in_ g hg).2.2 e')
  have hside : isSide (i : Int) := by unfold isSide; omega
  have hy1 : Y 1 = Yw := by rw [h.y1, List.append_nil]
  refine ⟨Am, cm, _, _, rfl, ?_, askL_form _ _ _ _, hr, ?_⟩
  · unfold askE
    rw [if_pos hside]
    split <;> simp
  · cases hK : askK t (S 0 i k) with
    | true =>
      obtain ⟨f', h1, h2⟩ := ends_ask (e := 0) h.ends (by omega) hi hk hK
      have hE : askE (i : Int) k t (S 0) = 0 := by
        unfold askE
        rw [if_pos hside, Int.toNat_natCast, hK]
        rfl
      rw [hE, if_pos rfl]
      refine ⟨L, F, _, _, f', ⟨?_, ?_, h.out, hway, h1, ?_, ?_, ?_⟩⟩
      · rw [set1_same]; exact hst
      · rw [set1_other _ _ (by omega)]; exact h.lk
      · rw [set1_other _ _ (by omega)]; exact h.y0
      · show set1 Y (1 - 0) _ 1 = _
        rw [show (1 - 0 : Nat) = 1 from rfl, set1_same, hy1]
      · show s + (set1 Y 1 _ 1).length + sum8 f' ≤ _
        rw [set1_same, List.length_append, show (1 - 0 : Nat) = 1 from rfl]
        have := h.bd
        omega
    | false =>
      have hE : ¬ askE (i : Int) k t (S 0) = 0 := by
        unfold askE
        rw [if_pos hside, Int.toNat_natCast, hK]
        decide
      rw [if_neg hE, ask_none hi hK]
      rw [ask_stays hi hK] at hst
      exact ⟨L, F, S, Y, f, ⟨hst, h.lk, h.out, hway, h.ends, h.y0, h.y1, h.bd⟩⟩
/-- a word more lies -/
theorem ag_grow {K : List (Int × Int)} {A4 : Option Addr} {c4 : Nat} (ht : TabW w0) (h : AgX w0 b bm G a s Yw K A c W L F S Y f) (hg : W.grownBy W' (blk A)) (hr : Row 5 1 W' (fun k => (w0.heap.size ≤ k ∧ ¬ F k ∧ k ≠ bm) ∨ k = W.heap.size) A4 (wordsB (Yw ++ K)).length c4 (bs (wordsB (Yw ++ K)))) : AgI w0 b bm G a s (Yw ++ K) [] A4 c4 W' := by
  have hk : Keep (fun k => w0.heap.size ≤ k ∧ ¬ F k ∧ k ≠ bm) W W' := Keep.grown hg (fun g hg => h.way.in_ g hg)
  refine ⟨L, F, S, Y, f, ⟨h.st.keep ht hk (fun k hk => hk), h.lk, h.out, hr.mono (fun g hg => ?_), h.ends, h.y0, by rw [h.y1, List.append_nil], h.bd⟩⟩
  rcases hg with hg | hg
  · exact hg
  · refine ⟨by have := h.st.up.size; omega, fun e => ?_, fun e => ?_⟩
    · have := h.st.ses.lt g e; omega
    · have := h.st.zb; omega
/-- behind both hearings -/
theorem ag_close {L' : LkT} {F' : Nat → Prop} {A' : Option Addr} {c' : Nat} (h : AgX w0 b bm G a s Yw [] A c W L F S Y f) (hc : LkC L' (hearsS (G 1) (S 1) Yw) (G 1)) (ho : L'.out = []) (hs : AgS w0 b bm lay0 L' F' (hearsS (G 0) (S 0) (hearsL (G 1) (S 1) Yw)) (G 0) W') (hw : WayR w0 bm F' (hearsL (G 0) (S 0) (hearsL (G 1) (S 1) Yw)) A' c' W') :
    AgI w0 b bm G a (s + Yw.length) (hearsL (G 0) (S 0) (hearsL (G 1) (S 1) Yw)) [] A' c' W' := by
  have hy1 : Y 1 = Yw := by rw [h.y1, List.append_nil]
  obtain ⟨S', Y', f', h1, h2, h3, h4, h5, h6, -, -⟩ := ag_round h.ends h.y0
  rw [hy1] at h3 h4 h5
  have hb := h.bd
  rw [hy1] at hb
  exact ⟨L', F', S', Y', f', ⟨by rw [h4]; exact hs, by rw [h3]; exact hc, ho, hw, h1, h2, by rw [h5, List.append_nil], by omega⟩⟩
/-- the words that the session says are words -/
theorem AgX.mid (h : AgX w0 b bm G a s Yw [] A c W L F S Y f) : WordsOk (hearsL (G 1) (S 1) Yw) ∧ (hearsL (G 1) (S 1) Yw).length ≤ 2 * a := by
  have hy1 : Y 1 = Yw := by rw [h.y1, List.append_nil]
  obtain ⟨S', Y', f', -, -, -, -, -, -, h7, h8⟩ := ag_round h.ends h.y0
  rw [hy1] at h7 h8
  exact ⟨h7, by have := h.bd; omega⟩
/-- at rest -/
theorem AgX.rest (h : AgX w0 b bm G a s [] [] A c W L F S Y f) : (∀ e i o, e < 2 → i < 2 → S e i o ≤ 1) ∧ (∀ o, o < 48 → S 0 0 o = S 1 1 o ∧ S 0 1 o = S 1 0 o) := ends_rest h.ends h.y0 (by rw [h.y1]; rfl)
end
end Go.Proofs.YtamfjgioajmnpaaGreatDoor
