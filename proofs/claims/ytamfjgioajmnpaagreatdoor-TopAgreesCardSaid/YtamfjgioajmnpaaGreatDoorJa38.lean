/-
Enter is pressed at a terminal: what goes is what is modified. Conditions: as read.modified's.
The plain law of a form: what its orders make of an empty screen; what a sign makes of that; what goes. No condition.
The link's modeNow, settle, say and hear. Conditions: how it lies.
The link's say and hear. Conditions: how it lies; at most one word at once.
-/
import Derived.Test.YtamfjgioajmnpaaGreatDoorJa33
import Derived.Test.YtamfjgioajmnpaaGreatDoorJa37
import Derived.Deep.RegionHeldLaw
import Derived.Test.YtamfjgioajmnpaaGreatDoorJa20
import Derived.Test.YtamfjgioajmnpaaGreatDoorJa25
import Derived.Test.YtamfjgioajmnpaaGreatDoorJa31
import Derived.Deep.RegionLaw
namespace Go.Proofs.YtamfjgioajmnpaaGreatDoor
open Go.RowKit
set_option linter.unusedVariables false
set_option linter.unusedSimpArgs false

theorem place_enter (w : World) : Calls Tryz.prog 212 #[.string ⟨#[108, 110, 107]⟩, .int .u8 125] w fun e w' => e = .returned (.int .i64 0) ∧ Up w w' := by
  go_enter Tryz.func212, Tryz.ntmps212
  go_wp2_with fail
  refine wp_loop_rounds 4 ?_
  iterate 4 (all_goals (try rw [rounds_succ]); all_goals (try go_wp2))
  go_ret
  exact ⟨rfl, Up.refl _⟩
theorem short_enter (w : World) : Calls Tryz.prog 156 #[.int .u8 125] w fun e w' => e = .returned (.bool false) ∧ Up w w' := by
  go_enter Tryz.func156, Tryz.ntmps156
  go_wp2_with fail
  refine (place_enter _).mono ?_
  rintro e w1 ⟨rfl, hu1⟩
  go_wp2_with fail
  go_ret
  exact ⟨rfl, hu1⟩
/-- what is asked of a screen whose modified fields go -/
structure ModOk (X : Spc) : Prop where
  fm : 0 < attrsN X.L
  sz : X.r * X.c ≤ 4096
  gr : ∀ n, ((X.at_ n).se == 241) = false
  len : (modB X 125).length ≤ 1000000
theorem rmodified_is {w : World} {p g : Nat} {X : Spc} (hs : SAt w p g X) (ok : X.Ok) (hm : ModOk X) :
    Calls Tryz.prog 109 #[.pointer (some ⟨p, 0, none⟩), .int .u8 125, .int .i64 0] w fun e w' => ∃ A c, e = .returned (.tuple #[.slice A (modB X 125).length c, .int .i64 0]) ∧ Bt w' (fun i => w.heap.size ≤ i) A (modB X 125).length c (modB X 125) ∧ Up w w' := by
  have HR := Lib.hid (fun W (hu : Up w W) => rmod_is (aid := 125) (hs.up hu) ok hm.fm (by omega) hm.sz hm.gr hm.len)
  clear hs ok hm
  go_enter Tryz.func109, Tryz.ntmps109
  go_wp2_with fail
  refine (short_enter _).mono ?_
  rintro e w1 ⟨rfl, hu1⟩
  go_wp2_with fail
  refine (HR.out _ hu1).mono ?_
  rintro e w2 ⟨A, c, rfl, hb, hu2⟩
  have HB := Lib.hid hb
  have HU2 := Lib.hid hu2
  have HU1 := Lib.hid hu1
  clear hb hu2 hu1
  go_wp2_with fail
  go_ret2
  exact ⟨A, c, rfl, HB.out.mono (fun i hi => by have := HU1.out.size; omega), HU1.out.trans HU2.out⟩
set_option maxRecDepth 100000 in
set_option maxHeartbeats 6400000 in
theorem tkey_enter {w : World} {b : Nat} {F : Nat → Prop} {T : TmT} {s n : Int} (h : TmAt w b F T) (hl : T.lock = 0) (hmd : T.mode = 0) (hmo : ModOk T.X) :
    Calls Tryz.prog 58 #[.pointer (some ⟨b, 0, none⟩), .agg #[.int .i64 19, .int .i32 s, .int .i64 n]] w fun e w' => ∃ A c, e = .returned (.tuple #[.slice A (modB T.X 125).length c, .int .i64 0]) ∧ TmAt w' b (Gr F w w') { T with lock := 1, ins := false, aid := 125, V := bumpV (bumpV T.V 1 1) 2 1 } ∧ Bt w' (fun i => w.heap.size ≤ i) A (modB T.X 125).length c (modB T.X 125) ∧ Keep F w w' := by
  obtain ⟨own, p, g, bb, pg, tl, h⟩ := h
  have hu0 : Up w (w.alloc (.cells #[.int .i64 19, .int .i32 s, .int .i64 n] 44)) := (Up.refl w).alloc _
  have sb := St.new w 44 [.int .i64 19, .int .i32 s, .int .i64 n] rfl
  have h0 := h.up hu0
  have k3 := h0.st.cell 3 (v := .pointer (some ⟨tl, 0, none⟩)) rfl
  have zb := h0.st.lt
  have hF := Lib.hid h.lt
  have hnot : ∀ (x : Bool) (w : World), (Op.unary .not (.bool x)).run Tryz.prog w = .ok (.bool (!x)) w := fun _ _ => rfl
  have hqF : ¬ F w.heap.size := fun e => by have := h.lt _ e; omega
  have HL := Lib.hid (And.intro hl hmd)
  have HMO := Lib.hid hmo
  clear h hl hmd hmo
  go_enter Tryz.func58, Tryz.ntmps58
  go_wp2_with fail
  have hz0 : (w.alloc (.cells #[.int .i64 19, .int .i32 s, .int .i64 n] 44)).heap.size = w.heap.size + 1 := by simp
  have sb2 : St (w.alloc (.cells #[.int .i64 19, .int .i32 s, .int .i64 n] 44)) 44 w.heap.size [.int .i64 19, .int .i32 s, .int .i64 n] := sb
  clear sb
  generalize (w.alloc (.cells #[.int .i64 19, .int .i32 s, .int .i64 n] 44)) = W0 at *
  refine (tadd_is (i := 1) h0.tl (by omega) rfl 1).mono ?_
  rintro e w1 ⟨rfl, ht1, hk1⟩
  have s1 := sb2.keep hk1 (fun e => hqF e.1)
  obtain ⟨h1, hk1'⟩ := h0.put_tl hk1 ht1
  have z1 := hk1'.size
  have hq1 : ¬ Gr F W0 w1 w.heap.size := fun e => by rcases e with e | e; exact hqF e; omega
  have k1 := h1.st.cell 1 (v := .pointer (some ⟨bb, 0, none⟩)) rfl
  have q0 := s1.cell 0 (v := .int .i64 19) rfl
  have q1 := s1.cell 1 (v := .int .i32 s) rfl
  have q2 := s1.cell 2 (v := .int .i64 n) rfl
  have zb1 := h1.st.lt
  have zq1 := s1.lt
  have hn3 : ¬ b = bb := cp_neq h1.fb h1.fbb (by decide)
  have hn4 : ¬ w.heap.size = bb := fun e => hq1 (e ▸ h1.fbb.1)
  have hks : St w1 260 bb (kbVals p pg 0 T.ins T.aid) := by have := h1.kst; simpa [HL.out.1] using this
  have HKP := Lib.hid (kpress_enter (s := s) (n := n) (hks.up (Up.refl w1).drew))
  have H1 := Lib.hid h1
  have HK1 := Lib.hid (((Keep.of_up hu0).trans hk1' : Keep F w w1))
  have HK01 := Lib.hid hk1'
  have HU0 := Lib.hid hu0
  clear h1 hk1 hk1' ht1 h0 hu0 k3 zb s1 sb2 hks
  obtain ⟨q, hq⟩ : ∃ q, w.heap.size = q := ⟨_, rfl⟩
  rw [hq] at q0 q1 q2 zq1 hn4 ⊢
  go_wp2_with fail
  go_region_held_law (fun w' => w'.cell? ⟨b, 1, none⟩ = some (.pointer (some ⟨bb, 0, none⟩)) ∧ w'.cell? ⟨q, 0, none⟩ = some (.int .i64 19) ∧ w'.cell? ⟨q, 1, none⟩ = some (.int .i32 s) ∧ w'.cell? ⟨q, 2, none⟩ = some (.int .i64 n)) (first | exact ⟨k1, q0, q1, q2⟩ | exact ⟨s0, s1, s2, s3⟩ | go_keep) ((go_simp; go_at_call 108; refine HKP.out.mono ?_; rintro e w2 ⟨rfl, hb2, hk2⟩; obtain ⟨kc, -⟩ := hk2.at_ b (show b < w1.drew.heap.size from zb1) hn3; obtain ⟨kx, -⟩ := hk2.at_ q (show q < w1.drew.heap.size from zq1) hn4; have s0 := (kc 1).trans k1; have s1 := (kx 0).trans q0; have s2 := (kx 1).trans q1; have s3 := (kx 2).trans q2; have HB2 := Lib.hid hb2; have HK2 := Lib.hid hk2; clear hb2 hk2 kc kx))
  obtain ⟨h2, hk2⟩ := (H1.out.up (Up.refl w1).drew).put_kb HK2.out HB2.out
  have d3 := h2.st.cell 3 (v := .pointer (some ⟨tl, 0, none⟩)) rfl
  have zb2 := h2.st.lt
  have H2 := Lib.hid h2
  have HK2F := Lib.hid hk2
  clear h2 hk2 k1 q0 q1 q2 s0 s1 s2 s3
  go_wp2_with fail
  have hFW : ∀ k, F k → k < W0.heap.size := fun k hk => by have := hF.out k hk; have := HU0.out.size; omega
  obtain ⟨h2, hk2⟩ := TmI.then (w1 := w1) hFW HK01.out H2.out ((Keep.refl _ w1).drew.trans HK2F.out)
  refine (tadd_is (i := 2) h2.tl (by omega) rfl 1).mono ?_
  rintro e w3 ⟨rfl, ht3, hk3⟩
  obtain ⟨h3, hk3'⟩ := h2.put_tl hk3 ht3
  obtain ⟨h3, hk3'⟩ := TmI.then hFW hk2 h3 hk3'
  have m0 := h3.st.cell 0 (v := .pointer (some ⟨p, 0, none⟩)) rfl
  have m1 := h3.st.cell 1 (v := .pointer (some ⟨bb, 0, none⟩)) rfl
  have m4 : w3.cell? ⟨b, 4, none⟩ = some (.int .i64 0) := by have := h3.st.cell 4 (v := .int .i64 T.mode) rfl; rw [HL.out.2] at this; exact this
  have zb3 := h3.st.lt
  have H3 := Lib.hid h3
  have HK3 := Lib.hid ((Keep.of_up HU0.out : Keep F w W0).trans hk3')
  have HMD := Lib.hid (fun W (hu : Up w3 W) => rmodified_is (h3.sp.up hu) h3.ok HMO.out)
  have HAID := Lib.hid (fun W (hu : Up w3 W) => kaid_is (h3.kst.up hu))
  have HF3 := Lib.hid (And.intro hFW hk3')
  clear h2 hk2 ht3 hk3 h3 hk3' d3 zb2 hFW
  simp only at HMD HAID
  go_wp2_with fail
  go_region_held_law (fun w' => w'.cell? ⟨b, 0, none⟩ = some (.pointer (some ⟨p, 0, none⟩)) ∧ w'.cell? ⟨b, 1, none⟩ = some (.pointer (some ⟨bb, 0, none⟩)) ∧ w'.cell? ⟨b, 4, none⟩ = some (.int .i64 0)) (first | exact ⟨m0, m1, m4⟩ | exact ⟨s0, s1, s2⟩ | go_keep) ((first | (go_simp; go_at_call 110; refine (HAID.out _ (by (repeat (first | with_reducible exact Up.refl _ | with_reducible refine Up.alloc ?_ _ | with_reducible refine Up.drew ?_ | with_reducible refine Up.drewN ?_ _ | with_reducible refine Up.setCell ?_ (by (try simp) <;> omega) _ | with_reducible assumption | with_reducible refine Up.trans ?_ (by assumption))))).mono ?_; rintro e wA ⟨rfl, rfl⟩) | (go_simp; go_at_call 109; refine (HMD.out _ (by (repeat (first | with_reducible exact Up.refl _ | with_reducible refine Up.alloc ?_ _ | with_reducible refine Up.drew ?_ | with_reducible refine Up.drewN ?_ _ | with_reducible refine Up.setCell ?_ (by (try simp) <;> omega) _ | with_reducible assumption | with_reducible refine Up.trans ?_ (by assumption))))).mono ?_; rintro e w4 ⟨A4, c4, rfl, hb4, hu4⟩; obtain ⟨kc, -⟩ := hu4.at_ b (show b < w3.drew.heap.size from zb3); have s0 := (kc 0).trans m0; have s1 := (kc 1).trans m1; have s2 := (kc 4).trans m4; have HB4 := Lib.hid hb4; have HU4 := Lib.hid hu4; clear hb4 hu4 kc)))
  go_wp2_with fail
  go_ret2
  have hu34 : Up w3 w4 := ((Up.refl w3).drew).trans HU4.out
  obtain ⟨h4, hk4⟩ := TmI.upg HF3.out.1 HF3.out.2 H3.out hu34
  have z0 := HU0.out.size
  have z3 : W0.heap.size ≤ w3.heap.size := HF3.out.2.size
  exact ⟨_, _, rfl, ⟨_, _, _, _, _, _, h4.wide (fun k hk => hk.imp id (fun h => ⟨by omega, h.2⟩)) (Gr.lt hF.out (by have := hk4.size; omega))⟩, HB4.out.mono (fun i hi => by have hi' : w3.heap.size ≤ i := hi; omega), (Keep.of_up HU0.out).trans hk4⟩
end Go.Proofs.YtamfjgioajmnpaaGreatDoor
namespace Go.Proofs.YtamfjgioajmnpaaGreatDoor
open Go.RowKit
set_option linter.unusedVariables false
set_option linter.unusedSimpArgs false

/-- orders of addresses, fields, the cursor and text -/
def dop1 (T : PenT) (o : OpP) : PenT :=
  if o.kind = 17 then { T with n := o.addr }
  else if o.kind = 29 then { T with X := T.X.set T.n (sfCl o.fa), n := (T.n + 1) % (T.X.r * T.X.c) }
  else if o.kind = 19 then { T with X := T.X.place T.n }
  else T.text o.tx
def Plain1 (m : Int) (o : OpP) : Prop := o.kind = 0 ∨ (o.kind = 17 ∧ 0 ≤ o.addr ∧ o.addr < m) ∨ (o.kind = 29 ∧ isB o.fa) ∨ o.kind = 19
theorem text_dim (l : List Int) : ∀ T : PenT, (T.text l).X.r * (T.text l).X.c = T.X.r * T.X.c := by
  induction l with
  | nil => intro T; rfl
  | cons x l ih => intro T; exact ih (T.putS x)
theorem dop1_dim (T : PenT) (o : OpP) : (stpO dop1 T o).X.r * (stpO dop1 T o).X.c = T.X.r * T.X.c := by
  unfold stpO dop1
  split
  · rfl
  split
  · rfl
  split
  · rfl
  · exact text_dim _ _
theorem fold_dim (l : List OpP) : ∀ T : PenT, (l.foldl (stpO dop1) T).X.r * (l.foldl (stpO dop1) T).X.c = T.X.r * T.X.c := by
  induction l with
  | nil => intro T; rfl
  | cons o l ih => intro T; exact (ih (stpO dop1 T o)).trans (dop1_dim T o)
theorem do1_ok {p g : Nat} {T0 : PenT} {l : List OpP} (h : ∀ o ∈ l, Plain1 (T0.X.r * T0.X.c) o) : DoOk dop1 p g T0 l := by
  intro pre o post hl W pb Ap np cp At nt ct hp hpr hsl hA1 hA2
  have ho := h o (by rw [hl]; simp)
  have hd := fold_dim pre T0
  generalize pre.foldl (stpO dop1) T0 = T at *
  obtain ⟨kind, addr, code, graph, fa, prs, tx⟩ := o
  rcases ho with h1 | ⟨h1, h2, h3⟩ | ⟨h1, h2⟩ | h1
  · simp only at h1
    subst h1
    exact pdo_text hp hsl hA2
  · simp only at h1 h2 h3
    subst h1
    exact pdo_sba hp h2 (by rw [hd]; exact h3)
  · simp only at h1 h2
    subst h1
    exact pdo_sf hp h2
  · simp only at h1
    subst h1
    exact pdo_ic hp
def formO : List OpP := [⟨17, 0, 0, false, 0, [], []⟩, ⟨29, 0, 0, false, 96, [], []⟩, ⟨0, 0, 0, false, 0, [], [213]⟩, ⟨29, 0, 0, false, 64, [], []⟩, ⟨19, 0, 0, false, 0, [], []⟩, ⟨0, 0, 0, false, 0, [], [0, 0, 0, 0]⟩, ⟨29, 0, 0, false, 240, [], []⟩]
set_option maxRecDepth 100000 in
theorem ords_form : ordsOf (formL.drop 2) = (formO, []) := by kernel_rfl
theorem form_plain : ∀ o ∈ formO, Plain1 1920 o := by
  intro o ho
  simp only [formO, List.mem_cons, List.not_mem_nil, or_false] at ho
  rcases ho with rfl | rfl | rfl | rfl | rfl | rfl | rfl <;> simp [Plain1, isB]
def formT : PenT := formO.foldl (stpO dop1) ⟨(newS 2).clear false, 0, Cl.zero, false⟩
/-- the screen behind the form, and behind the sign -/
def scr1 : Spc := formT.X
def scr2 : Spc := scr1.enter 193
def hd1 : List Cl := [⟨0, true, 32, 0, 0, 0⟩, ⟨213, false, 0, 0, 0, 0⟩, ⟨0, true, 0, 0, 0, 0⟩, Cl.zero, Cl.zero, Cl.zero, Cl.zero, ⟨0, true, 48, 0, 0, 0⟩]
set_option maxRecDepth 100000 in
theorem scr1_is : scr1 = ⟨2, false, 24, 80, hd1 ++ List.replicate 1912 Cl.zero, 3⟩ := by kernel_rfl
def hd2 : List Cl := [⟨0, true, 32, 0, 0, 0⟩, ⟨213, false, 0, 0, 0, 0⟩, ⟨0, true, 1, 0, 0, 0⟩, ⟨193, false, 0, 0, 0, 0⟩, Cl.zero, Cl.zero, Cl.zero, ⟨0, true, 48, 0, 0, 0⟩]
set_option maxRecDepth 100000 in
theorem scr1_ok : scr1.Ok := by
  rw [scr1_is]
  have hw : ∀ c ∈ hd1 ++ List.replicate 1912 Cl.zero, c.Wf ∧ c.fit = c := by
    intro c hc
    rcases List.mem_append.1 hc with h | h
    · simp only [hd1, List.mem_cons, List.not_mem_nil, or_false] at h
      rcases h with rfl | rfl | rfl | rfl | rfl | rfl | rfl | rfl
      all_goals refine ⟨⟨by simp [isB, Cl.zero], by simp [isB, Cl.zero], by simp [isB, Cl.zero], by simp [isB, Cl.zero], by simp [isB, Cl.zero]⟩, ?_⟩
      all_goals kernel_rfl
    · obtain rfl := List.eq_of_mem_replicate h
      exact ⟨Cl.zero_wf, Cl.zero_fit⟩
  exact ⟨by decide, by decide, rfl, by simp [hd1], fun c h => (hw c h).1, fun c h => (hw c h).2, by decide, by simp [hd1]⟩
set_option maxRecDepth 100000 in
theorem scr2_is : scr2 = ⟨2, false, 24, 80, hd2 ++ List.replicate 1912 Cl.zero, 4⟩ := by kernel_rfl
set_option maxRecDepth 100000 in
theorem scr1_start : scr1.start 3 = 2 := by
  rw [scr1_is]
  kernel_rfl
set_option maxRecDepth 100000 in
theorem form_char : CharOk scr1 37 65 193 := by
  have hc : scr1.cur = 3 := by rw [scr1_is]
  refine ⟨by kernel_rfl, by kernel_rfl, by kernel_rfl, by kernel_rfl, by decide, by decide, ?_, ?_, ?_⟩
  · rw [hc, scr1_start]; decide
  · rw [hc, scr1_start, scr1_is]; kernel_rfl
  · unfold Spc.open_
    rw [hc, scr1_start, scr1_is]; kernel_rfl
theorem those_cut {f : Nat → Bool} {a n : Nat} (h : ∀ k, a ≤ k → f k = false) (hn : a ≤ n) : those f n = those f a := by
  obtain ⟨d, rfl⟩ : ∃ d, n = a + d := ⟨n - a, by omega⟩
  unfold those
  rw [List.range_add, List.filter_append]
  have : ((List.range d).map (a + ·)).filter f = [] := by
    rw [List.filter_eq_nil_iff]
    intro k hk
    obtain ⟨j, -, rfl⟩ := List.mem_map.1 hk
    rw [h _ (by omega)]
    simp
  rw [this, List.append_nil]
theorem isAt_past (l : List Cl) (n k : Nat) (h : l.length ≤ k) : isAt (l ++ List.replicate n Cl.zero) k = false := by
  unfold isAt
  rw [List.getD_eq_getElem?_getD, List.getElem?_append_right h, List.getElem?_replicate]
  split <;> rfl
set_option maxRecDepth 100000 in
theorem scr2_mods : modsX scr2 = [2] := by
  rw [scr2_is]
  unfold modsX
  simp only
  rw [those_cut (a := 8) (fun k hk => isAt_past _ _ _ hk) (by simp [hd2])]
  kernel_rfl
set_option maxRecDepth 100000 in
theorem scr2_cnt : scr2.cnt 2 = 4 := by
  rw [scr2_is]
  kernel_rfl
set_option maxRecDepth 100000 in
theorem scr2_places : scr2.places 2 = [3, 4, 5, 6] := by
  unfold Spc.places
  rw [scr2_cnt, scr2_is]
  kernel_rfl
set_option maxRecDepth 100000 in
theorem scr2_mod : modB scr2 125 = [125, 64, 196, 17, 64, 195, 193] := by
  unfold modB fldB
  simp only [scr2_mods, List.flatMap_cons, List.flatMap_nil, scr2_places]
  rw [scr2_is]
  kernel_rfl
set_option maxRecDepth 100000 in
theorem mod_ok : ModOk scr2 := by
  refine ⟨?_, by rw [scr2_is]; decide, fun n => ?_, by rw [scr2_mod]; decide⟩
  · have : attrsN scr2.L = 3 := by kernel_rfl
    omega
  · have : ∀ c ∈ scr2.L, c.se = 0 := by
      rw [scr2_is]
      intro c hc
      rcases List.mem_append.1 hc with h | h
      · simp only [hd2, List.mem_cons, List.not_mem_nil, or_false] at h
        rcases h with rfl | rfl | rfl | rfl | rfl | rfl | rfl | rfl <;> rfl
      · obtain rfl := List.eq_of_mem_replicate h
        rfl
    have h0 : (scr2.at_ n).se = 0 := by
      unfold Spc.at_
      rw [List.getD_eq_getElem?_getD]
      cases h : scr2.L[scr2.wrap n]? with
      | none => rfl
      | some c => exact this c (List.mem_of_getElem? h)
    rw [h0]
    rfl
end Go.Proofs.YtamfjgioajmnpaaGreatDoor
namespace Go.Proofs.YtamfjgioajmnpaaGreatDoor
open Go.RowKit
set_option linter.unusedVariables false
set_option linter.unusedSimpArgs false

def bothB (S : Nat → Nat → Int) (k : Nat) : Bool := (S 0 k == 1) && (S 1 k == 1)
def modeT (S : Nat → Nat → Int) (st : Int) : Int := if S 0 40 == 1 then (if st == 3 then 2 else 0) else if bothB S 0 && bothB S 25 && (S 0 24 == 1) then 1 else 0
def settleT (L : LkT) : LkT := if modeT L.S L.en.st = L.mode then L else { L with mode := modeT L.S L.en.st, mkr := ⟨[], false⟩ }
set_option maxRecDepth 100000 in
set_option maxHeartbeats 3200000 in
theorem both_is {g b bo k : Nat} {o : Int} {S : Nat → Nat → Int} {G : Nat → Nat → Bool} {w : World} {t : Bool} (hg : w.cell? ⟨g, 0, none⟩ = some (.pointer (some ⟨b, 0, none⟩))) (hb : w.cell? ⟨b, 1, none⟩ = some (.pointer (some ⟨bo, 0, none⟩))) (hm : MAt w bo S G) (hS : okS S) (hk : k < 256) (ho : o = (k : Int)) (ht : bothB S k = t) :
    Calls Tryz.prog 229 #[.int .u8 o, .pointer (some ⟨g, 0, none⟩)] w fun e w' => e = .returned (.bool t) ∧ w = w' := by
  have zg := cell_lt hg
  have zb := cell_lt hb
  obtain ⟨t1, ht1⟩ : ∃ t1, (S 0 k == 1) = t1 := ⟨_, rfl⟩
  obtain ⟨t2, ht2⟩ : ∃ t2, (S 1 k == 1) = t2 := ⟨_, rfl⟩
  have H1 := Lib.hid (on_at (i' := 0) (o := o) 0 k hm hS (by omega) hk rfl ho ht1)
  have H2 := Lib.hid (on_at (i' := 1) (o := o) 1 k hm hS (by omega) hk rfl ho ht2)
  have HT := Lib.hid (show t = (t1 && t2) by rw [← ht, bothB, ht1, ht2])
  clear hm hS ht ht1 ht2 ho
  cases t1
  · go_enter Tryz.func229, Tryz.ntmps229
    go_wp2_with fail
    refine H1.out.mono ?_
    rintro e w' ⟨rfl, rfl⟩
    go_wp2
    go_ret
    exact ⟨by rw [HT.out]; rfl, rfl⟩
  · go_enter Tryz.func229, Tryz.ntmps229
    go_wp2_with fail
    refine H1.out.mono ?_
    rintro e w' ⟨rfl, rfl⟩
    go_wp2_with fail
    refine H2.out.mono ?_
    rintro e w' ⟨rfl, rfl⟩
    go_wp2
    go_ret
    exact ⟨by rw [HT.out]; rfl, rfl⟩
theorem MAt.upw {w w' : World} {b : Nat} {S : Nat → Nat → Int} {G : Nat → Nat → Bool} (h : MAt w b S G) (hu : Up w w') : MAt w' b S G := h.up hu (cell_lt (h 0 0 (by omega) (by omega)).1.1)
set_option maxRecDepth 100000 in
set_option maxHeartbeats 6400000 in
theorem modeNow_is {w : World} {b br bo be bm co : Nat} {F : Nat → Prop} {own : Nat → Nat} {L : LkT} {Ao : Option Addr} (h : LkI w b F own L br bo be bm Ao co) :
    Calls Tryz.prog 182 #[.pointer (some ⟨b, 0, none⟩)] w fun e w' => e = .returned (.int .i64 (modeT L.S L.en.st)) ∧ Up w w' := by
  have k1 := h.st.cell 1 (v := .pointer (some ⟨bo, 0, none⟩)) rfl
  have k2 := h.st.cell 2 (v := .pointer (some ⟨be, 0, none⟩)) rfl
  have zb := h.st.lt
  have hu : Up w (w.alloc (.cells #[.pointer (some ⟨b, 0, none⟩)] 114)) := (Up.refl w).alloc _
  have hg : (w.alloc (.cells #[.pointer (some ⟨b, 0, none⟩)] 114)).cell? ⟨w.heap.size, 0, none⟩ = some (.pointer (some ⟨b, 0, none⟩)) := by simp [go_sem]
  have hb : (w.alloc (.cells #[.pointer (some ⟨b, 0, none⟩)] 114)).cell? ⟨b, 1, none⟩ = some (.pointer (some ⟨bo, 0, none⟩)) := ((hu.at_ b zb).1 1).trans k1
  obtain ⟨t40, ht40⟩ : ∃ t, (L.S 0 40 == 1) = t := ⟨_, rfl⟩
  obtain ⟨t24, ht24⟩ : ∃ t, (L.S 0 24 == 1) = t := ⟨_, rfl⟩
  obtain ⟨t3, ht3⟩ : ∃ t, (L.en.st == 3) = t := ⟨_, rfl⟩
  obtain ⟨t0, ht0⟩ : ∃ t, bothB L.S 0 = t := ⟨_, rfl⟩
  obtain ⟨t25, ht25⟩ : ∃ t, bothB L.S 25 = t := ⟨_, rfl⟩
  have H40 := Lib.hid (on_at (i' := 0) (o := 40) 0 40 (h.ma.upw hu) h.ok (by omega) (by omega) rfl rfl ht40)
  have H24 := Lib.hid (on_at (i' := 0) (o := 24) 0 24 (h.ma.upw hu) h.ok (by omega) (by omega) rfl rfl ht24)
  have H0 := Lib.hid (both_is (o := 0) (k := 0) hg hb (h.ma.upw hu) h.ok (by omega) rfl ht0)
  have H25 := Lib.hid (both_is (o := 25) (k := 25) hg hb (h.ma.upw hu) h.ok (by omega) rfl ht25)
  have H3 := Lib.hid (nready_is (h.en.keep (D := fun _ => False) (Keep.of_up hu) (fun _ _ h => h)) ht3)
  have HM := Lib.hid (show modeT L.S L.en.st = if t40 then (if t3 then 2 else 0) else if t0 && t25 && t24 then 1 else 0 by unfold modeT; rw [ht40, ht3, ht0, ht25, ht24])
  clear h ht40 ht24 ht3 ht0 ht25 hu hg hb
  cases t40
  · cases t0
    · go_enter Tryz.func182, Tryz.ntmps182
      go_wp2_with fail
      refine H40.out.mono ?_
      rintro e w' ⟨rfl, rfl⟩
      go_wp2_with fail
      refine H0.out.mono ?_
      rintro e w' ⟨rfl, rfl⟩
      go_wp2
      go_ret
      exact ⟨by rw [HM.out]; rfl, by (repeat (first | with_reducible exact Up.refl _ | with_reducible refine Up.alloc ?_ _ | with_reducible refine Up.drew ?_ | with_reducible refine Up.drewN ?_ _ | with_reducible refine Up.setCell ?_ (by (try simp) <;> omega) _ | with_reducible assumption | with_reducible refine Up.trans ?_ (by assumption)))⟩
    · cases t25
      · go_enter Tryz.func182, Tryz.ntmps182
        go_wp2_with fail
        refine H40.out.mono ?_
        rintro e w' ⟨rfl, rfl⟩
        go_wp2_with fail
        refine H0.out.mono ?_
        rintro e w' ⟨rfl, rfl⟩
        go_wp2_with fail
        refine H25.out.mono ?_
        rintro e w' ⟨rfl, rfl⟩
        go_wp2
        go_ret
        exact ⟨by rw [HM.out]; rfl, by (repeat (first | with_reducible exact Up.refl _ | with_reducible refine Up.alloc ?_ _ | with_reducible refine Up.drew ?_ | with_reducible refine Up.drewN ?_ _ | with_reducible refine Up.setCell ?_ (by (try simp) <;> omega) _ | with_reducible assumption | with_reducible refine Up.trans ?_ (by assumption)))⟩
      · cases t24
        all_goals
          go_enter Tryz.func182, Tryz.ntmps182
          go_wp2_with fail
          refine H40.out.mono ?_
          rintro e w' ⟨rfl, rfl⟩
          go_wp2_with fail
          refine H0.out.mono ?_
          rintro e w' ⟨rfl, rfl⟩
          go_wp2_with fail
          refine H25.out.mono ?_
          rintro e w' ⟨rfl, rfl⟩
          go_wp2_with fail
          refine H24.out.mono ?_
          rintro e w' ⟨rfl, rfl⟩
          go_wp2
          go_ret
          exact ⟨by rw [HM.out]; rfl, by (repeat (first | with_reducible exact Up.refl _ | with_reducible refine Up.alloc ?_ _ | with_reducible refine Up.drew ?_ | with_reducible refine Up.drewN ?_ _ | with_reducible refine Up.setCell ?_ (by (try simp) <;> omega) _ | with_reducible assumption | with_reducible refine Up.trans ?_ (by assumption)))⟩
  · cases t3
    all_goals
      go_enter Tryz.func182, Tryz.ntmps182
      go_wp2_with fail
      refine H40.out.mono ?_
      rintro e w' ⟨rfl, rfl⟩
      go_wp2_with fail
      refine H3.out.mono ?_
      rintro e w' ⟨rfl, rfl⟩
      go_wp2
      go_ret
      exact ⟨by rw [HM.out]; rfl, by (repeat (first | with_reducible exact Up.refl _ | with_reducible refine Up.alloc ?_ _ | with_reducible refine Up.drew ?_ | with_reducible refine Up.drewN ?_ _ | with_reducible refine Up.setCell ?_ (by (try simp) <;> omega) _ | with_reducible assumption | with_reducible refine Up.trans ?_ (by assumption)))⟩
set_option maxRecDepth 100000 in
set_option maxHeartbeats 6400000 in
theorem settle_is {w : World} {b : Nat} {F : Nat → Prop} {L : LkT} (h : LkAt w b F L) :
    Calls Tryz.prog 143 #[.pointer (some ⟨b, 0, none⟩)] w (LkPost w b F (settleT L)) := by
  obtain ⟨own, br, bo, be, bm, Ao, co, h⟩ := h
  have H := Lib.hid h
  have HN := Lib.hid (modeNow_is h)
  clear h
  obtain ⟨m, hm⟩ : ∃ m, modeT L.S L.en.st = m := ⟨_, rfl⟩
  have HM := Lib.hid hm
  rw [hm] at HN
  clear hm
  go_enter Tryz.func143, Tryz.ntmps143
  go_wp2_with fail
  refine HN.out.mono ?_
  rintro e w1 ⟨rfl, hu1⟩
  have hk1 : Keep F w w1 := Keep.of_up hu1
  have h1 : LkI w1 b (Gr F w w1) own L br bo be bm Ao co := (H.out.keep (E := fun _ => False) (Keep.of_up hu1) (fun _ _ h => h)).wide (fun k hk => .inl hk) (Gr.lt H.out.lt hu1.size)
  have H1 := Lib.hid h1
  have HK1 := Lib.hid hk1
  have k3 := h1.st.cell 3 (v := .pointer (some ⟨bm, 0, none⟩)) rfl
  have k6 := h1.st.cell 6 (v := .int .i64 L.mode) rfl
  have f6 := h1.st.free 6
  have zb := h1.st.lt
  clear h1 hk1 hu1
  by_cases he : m = L.mode
  · have HT := Lib.hid (show settleT L = L by unfold settleT; rw [HM.out, if_pos he])
    have he' : (m != L.mode) = false := by simp [he]
    clear he
    go_wp2_with fail
    go_end0
    rw [HT.out]
    exact ⟨rfl, ⟨own, br, bo, be, bm, Ao, co, H1.out⟩, HK1.out⟩
  · have HT := Lib.hid (show settleT L = { L with mode := m, mkr := ⟨[], false⟩ } by unfold settleT; rw [HM.out, if_neg he])
    have he' : (m != L.mode) = true := by simp [he]
    clear he
    obtain ⟨h2, hk2⟩ := H1.out.put_own (L' := { L with mode := m }) (w' := w1.setCell ⟨b, 6, none⟩ (.int .i64 m)) ((Keep.refl (Cp (Gr F w w1) own 0) w1).setCell (p := ⟨b, 6, none⟩) (.inl H1.out.fb) _) (H1.out.st.set 6 _) ((H1.out.out.struct H1.out.st ne_lk8 6 _).mono (fun g hg => .inl hg)) H1.out.bo rfl rfl rfl rfl rfl
    have H2 := Lib.hid h2
    have HK2 := Lib.hid hk2
    have HD := Lib.hid (mdrop_is h2.mkr)
    clear h2 hk2
    go_wp2_with fail
    refine HD.out.mono ?_
    rintro e w3 ⟨rfl, hm3, hk3⟩
    go_wp2_with fail
    go_end0
    rw [HT.out]
    have hk3' : Keep (Cp (Gr (Gr F w w1) w1 (w1.setCell ⟨b, 6, none⟩ (.int .i64 m))) (recol own w1 0) 4) (w1.setCell ⟨b, 6, none⟩ (.int .i64 m)) w3 := hk3.mono (fun k e => by rw [e]; exact H2.out.mkr.fb)
    obtain ⟨h4, hk4⟩ := H2.out.put_mk hk3' hm3
    refine LkPost.then HK1.out (LkPost.then HK2.out ⟨rfl, ⟨_, _, _, _, _, _, _, h4⟩, hk4⟩ H1.out.lt) H.out.lt
end Go.Proofs.YtamfjgioajmnpaaGreatDoor
namespace Go.Proofs.YtamfjgioajmnpaaGreatDoor
open Go.RowKit
set_option linter.unusedVariables false
set_option linter.unusedSimpArgs false

/-- words as bytes -/
def wordsB (L : List (Int × Int)) : List Int := L.flatMap fun p => [255, p.1, p.2]
def sayT (L : LkT) (M : List (Int × Int)) : LkT := { L with out := L.out ++ wordsB M }
set_option maxRecDepth 100000 in
set_option maxHeartbeats 6400000 in
theorem say0_is {w : World} {b c : Nat} {F : Nat → Prop} {L : LkT} {A : Option Addr} (h : LkAt w b F L) :
    Calls Tryz.prog 174 #[.pointer (some ⟨b, 0, none⟩), .slice A 0 c] w (LkPost w b F (sayT L [])) := by
  have HT := Lib.hid (show sayT L [] = L by unfold sayT wordsB; simp)
  have H := Lib.hid h
  have zb := h.lt _ h.fb
  clear h
  go_enter Tryz.func174, Tryz.ntmps174
  go_wp2_with fail
  refine wp_loop_rounds 1 ?_
  iterate 1 (all_goals (try rw [rounds_succ]); all_goals (try go_wp2))
  go_end0
  rw [HT.out]
  exact ⟨rfl, H.out.wide (fun k hk => .inl hk) (Gr.lt H.out.lt (Nat.le_refl _)), Keep.refl _ _⟩
theorem msg3_is (v o : Int) (w : World) : Calls Tryz.prog 30 #[.agg #[.int .u8 v, .int .u8 o]] w fun e w' => ∃ A c, e = .returned (.slice A 3 c) ∧ Reads w' w'.heap.size 1 A 3 (bs [255, v, o]) ∧ Up w w' := by
  refine (msg_is v o w).mono ?_
  rintro e w1 ⟨A1, n1, c1, rfl, ⟨A2, n2, c2, hv, hn, _, _, hr⟩, hu⟩
  injection hv with e1 e2 e3
  subst e1; subst e2; subst e3
  obtain rfl : n1 = 3 := hn
  exact ⟨A1, c1, rfl, hr, hu⟩
set_option maxRecDepth 100000 in
set_option maxHeartbeats 6400000 in
theorem say1_is {w : World} {b c g o : Nat} {F : Nat → Prop} {L : LkT} {v x : Int} (h : LkAt w b F L) (hv : 0 ≤ v ∧ v ≤ 255) (hx : 0 ≤ x ∧ x ≤ 255) (hg0 : w.cell? ⟨g, o, none⟩ = some (.int .u8 v)) (hg1 : w.cell? ⟨g, o + 1, none⟩ = some (.int .u8 x)) (hn : L.out.length ≤ 1000000000) :
    Calls Tryz.prog 174 #[.pointer (some ⟨b, 0, none⟩), .slice (some ⟨g, o, none⟩) 1 c] w (LkPost w b F (sayT L [(v, x)])) := by
  obtain ⟨i0, hi, hz0, hz1, hz2⟩ := info_parts info_u8
  obtain ⟨own, br, bo, be, bm, Ao, co, h⟩ := h
  have H := Lib.hid h
  have k4 := h.st.cell 4 (v := .slice Ao L.out.length co) rfl
  have f4 := h.st.free 4
  have zb := h.st.lt
  have zg := cell_lt hg0
  have hq1 : L.out.length + 3 ≤ maxLen := by simp [maxLen]; omega
  have hq2 : (L.out.length + 3) * 1 ≤ 140737488355328 := by omega
  clear h hn
  go_enter Tryz.func174, Tryz.ntmps174
  go_wp2_with fail
  refine wp_loop_rounds 2 ?_
  rw [rounds_succ]
  go_wp2_with fail
  go_region_law (first | (go_simp; go_at_call 30; refine (msg3_is _ _ _).mono ?_; rintro e w1 ⟨A1, c1, rfl, hr1, hu1⟩; have st1 : St w1 187 b (lkVals L br bo be bm Ao co) := (H.out.st.up (by (repeat (first | with_reducible exact Up.refl _ | with_reducible refine Up.alloc ?_ _ | with_reducible refine Up.drew ?_ | with_reducible refine Up.drewN ?_ _ | with_reducible refine Up.setCell ?_ (by (try simp) <;> omega) _ | with_reducible assumption | with_reducible refine Up.trans ?_ (by assumption))))).up hu1; have d4 := st1.cell 4 (v := .slice Ao L.out.length co) rfl; have e4 := st1.free 4; have zb1 := st1.lt; have ST1 := Lib.hid st1; have HR1 := Lib.hid hr1; have HU1 := Lib.hid hu1; clear st1 hr1 hu1) | (refine step_row (cx := c1) rfl 30 rfl 5 i0 _ 1 1 Tryz.underlying30 hi hz0 hz1 hz2 rfl (by decide) (by simp [Act.eval, Act.put]) (((H.out.out.up (by (repeat (first | with_reducible exact Up.refl _ | with_reducible refine Up.alloc ?_ _ | with_reducible refine Up.drew ?_ | with_reducible refine Up.drewN ?_ _ | with_reducible refine Up.setCell ?_ (by (try simp) <;> omega) _ | with_reducible assumption | with_reducible refine Up.trans ?_ (by assumption))))).up HU1.out).up (by (repeat (first | with_reducible exact Up.refl _ | with_reducible refine Up.alloc ?_ _ | with_reducible refine Up.drew ?_ | with_reducible refine Up.drewN ?_ _ | with_reducible refine Up.setCell ?_ (by (try simp) <;> omega) _ | with_reducible assumption | with_reducible refine Up.trans ?_ (by assumption))))) (by simp [Act.eval, Act.put]) HR1.out (one_bs [255, v, x]) hq1 hq2 ?_; intro A2 c2 w2 hr2 hg2 hb2; have st2 : St w2 187 b (lkVals L br bo be bm Ao co) := ST1.out.grown hg2 (H.out.out.ne H.out.st ne_lk8); have d42 := st2.cell 4 (v := .slice Ao L.out.length co) rfl; have e42 := st2.free 4; have zb2 := st2.lt; have ST2 := Lib.hid st2; have HR2 := Lib.hid hr2; have HG2 := Lib.hid hg2; clear st2 hr2 hg2 hb2))
  all_goals
    go_wp2_with fail
    all_goals (try rw [rounds_succ])
    all_goals go_wp2
    go_end0
    have hk : Keep (Cp F own 0) w (w2.setCell ⟨b, 4, none⟩ (.slice A2 (L.out.length + 3) c2)) := ((Keep.of_up (show Up w w1 from Up.trans (by (repeat (first | with_reducible exact Up.refl _ | with_reducible refine Up.alloc ?_ _ | with_reducible refine Up.drew ?_ | with_reducible refine Up.drewN ?_ _ | with_reducible refine Up.setCell ?_ (by (try simp) <;> omega) _ | with_reducible assumption | with_reducible refine Up.trans ?_ (by assumption)))) HU1.out)).trans (Keep.grown HG2.out (fun g hg => H.out.out.in_ g hg))).setCell (p := ⟨b, 4, none⟩) (.inl H.out.fb) _
    have hl : (sayT L [(v, x)]).out.length = L.out.length + 3 := by simp [sayT, wordsB]
    have hz1 : w.heap.size ≤ w1.heap.size := (show Up w w1 from Up.trans (by (repeat (first | with_reducible exact Up.refl _ | with_reducible refine Up.alloc ?_ _ | with_reducible refine Up.drew ?_ | with_reducible refine Up.drewN ?_ _ | with_reducible refine Up.setCell ?_ (by (try simp) <;> omega) _ | with_reducible assumption | with_reducible refine Up.trans ?_ (by assumption)))) HU1.out).size
    obtain ⟨h3, hk3⟩ := H.out.put_own (L' := sayT L [(v, x)]) (Ao' := A2) (co' := c2) hk (by simpa [lkVals, sayT, wordsB] using ST2.out.set 4 (.slice A2 (L.out.length + 3) c2)) (by
      rw [hl, show bs (sayT L [(v, x)]).out = bs L.out ++ bs [255, v, x] by simp [sayT, wordsB, bs]]
      exact (HR2.out.struct ST2.out ne_lk8 4 _).gr (fun g hg => hg.imp id (fun e => by rw [e]; exact hz1))) (H.out.bo.app (fun y hy => by simp [wordsB] at hy; omega)) rfl rfl rfl rfl rfl
    exact ⟨rfl, ⟨_, _, _, _, _, _, _, h3⟩, hk3⟩
end Go.Proofs.YtamfjgioajmnpaaGreatDoor
