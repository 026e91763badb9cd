/-
vitrinetop.lay of no conf at all: a session that has agreed with its host. No condition.
session.Type of the one sign A. Conditions: what the terminal makes of it.
vitrinetop.works: a form comes, A is typed, and goes: it answers true. No condition but the table of names as it lies.
-/
import Derived.Test.YtamfjgioajmnpaaGreatDoorJa45
import Derived.Test.YtamfjgioajmnpaaGreatDoorJa5
import Derived.Test.YtamfjgioajmnpaaGreatDoorJa31
namespace Go.Proofs.YtamfjgioajmnpaaGreatDoor
open Go.RowKit
set_option linter.unusedVariables false
set_option linter.unusedSimpArgs false

/-- bytes with their tag -/
def RBt (l : List Int) (v : Value) (W : World) : Prop := ∃ A n c, v = .slice A n c ∧ n = l.length ∧ n ≤ c ∧ c ≤ maxLen ∧ Bt W (fun _ => True) A n c l
theorem rbt_up (l : List Int) (v : Value) (W W' : World) (h : RBt l v W) (hu : Up W W') : RBt l v W' := by
  obtain ⟨A, n, c, h1, h2, h3, h4, h5⟩ := h
  exact ⟨A, n, c, h1, h2, h3, h4, h5.up hu⟩
theorem rbt_lit (W : World) (cs : Array Value) (l : List Int) (n : Nat) (g : Nat) (h : cs.toList = l.map (Value.int .u8)) (hn : n = l.length) (hm : n ≤ maxLen) (hg : g = W.heap.size) (hb : BL l) : RBt l (.slice (some ⟨g, 0, none⟩) n n) (W.alloc (.cells cs 5)) := by
  have hsz : cs.size = n * 1 := by rw [← Array.length_toList, h, List.length_map, hn, Nat.mul_one]
  have := (reads_at W g 1 n cs 5 hsz hg).more (show W.heap.size + 1 ≤ (W.alloc (.cells cs 5)).heap.size by simp)
  rw [h] at this
  refine ⟨_, _, _, rfl, hn, Nat.le_refl _, hm, ⟨this, Nat.le_refl _, hm, fun _ _ => trivial, hb, fun k hk => ?_⟩⟩
  simp [blk] at hk
  subst hk
  subst hg
  exact ⟨_, _, World.alloc_heap_new W _⟩
/-- a link's conf; a session's -/
def RF4 (l : List Int) (v : Value) (W : World) : Prop := ∃ A n c, v = .agg #[.string ⟨#[73, 66, 77, 45, 51, 50, 55, 56, 45, 50, 45, 69]⟩, .string ⟨#[]⟩, .slice A n c, .bool false] ∧ n = l.length ∧ n ≤ c ∧ c ≤ maxLen ∧ Bt W (fun _ => True) A n c l
def RF6 (l : List Int) (v : Value) (W : World) : Prop := ∃ A n c, v = .agg #[.string ⟨#[73, 66, 77, 45, 51, 50, 55, 56, 45, 50, 45, 69]⟩, .string ⟨#[]⟩, .slice A n c, .bool false, .int .i64 2, .int .i64 37] ∧ n = l.length ∧ n ≤ c ∧ c ≤ maxLen ∧ Bt W (fun _ => True) A n c l
theorem rf4_up (l : List Int) (v : Value) (W W' : World) (h : RF4 l v W) (hu : Up W W') : RF4 l v W' := by
  obtain ⟨A, n, c, h1, h2, h3, h4, h5⟩ := h
  exact ⟨A, n, c, h1, h2, h3, h4, h5.up hu⟩
theorem rf6_up (l : List Int) (v : Value) (W W' : World) (h : RF6 l v W) (hu : Up W W') : RF6 l v W' := by
  obtain ⟨A, n, c, h1, h2, h3, h4, h5⟩ := h
  exact ⟨A, n, c, h1, h2, h3, h4, h5.up hu⟩
/-- a session with a nil error; a session -/
def RSes (B : Nat) (L : LkT) (S : SsT) (v : Value) (W : World) : Prop := ∃ b, v = .tuple #[.pointer (some ⟨b, 0, none⟩), .int .i64 0] ∧ B ≤ W.heap.size ∧ SesAt W b (fun i => B ≤ i ∧ i < W.heap.size) L S
def RSp (B : Nat) (L : LkT) (S : SsT) (v : Value) (W : World) : Prop := ∃ b, v = .pointer (some ⟨b, 0, none⟩) ∧ B ≤ W.heap.size ∧ SesAt W b (fun i => B ≤ i ∧ i < W.heap.size) L S
theorem ses_wide {W W' : World} {b B : Nat} {L : LkT} {S : SsT} (h : SesAt W b (fun i => B ≤ i ∧ i < W.heap.size) L S) (hu : Up W W') (hn : 4 < B) : SesAt W' b (fun i => B ≤ i ∧ i < W'.heap.size) L S :=
  (h.up hu).wide (fun k hk => ⟨hk.1, Nat.lt_of_lt_of_le hk.2 hu.size⟩) (fun k hk => hk.2) (fun e => by omega)
theorem ses_nt {W : World} {b B : Nat} {L : LkT} {S : SsT} (h : SesAt W b (fun i => B ≤ i ∧ i < W.heap.size) L S) : 4 < B := by
  obtain ⟨bl, Fl, Fr, h⟩ := h
  have h1 := h.ss.tab.lt
  have h2 := h.nt
  omega
theorem rses_up (B : Nat) (L : LkT) (S : SsT) (v : Value) (W W' : World) (h : RSes B L S v W) (hu : Up W W') : RSes B L S v W' := by
  obtain ⟨b, h1, h2, h3⟩ := h
  exact ⟨b, h1, Nat.le_trans h2 hu.size, ses_wide h3 hu (ses_nt h3)⟩
theorem rsp_up (B : Nat) (L : LkT) (S : SsT) (v : Value) (W W' : World) (h : RSp B L S v W) (hu : Up W W') : RSp B L S v W' := by
  obtain ⟨b, h1, h2, h3⟩ := h
  exact ⟨b, h1, Nat.le_trans h2 hu.size, ses_wide h3 hu (ses_nt h3)⟩
theorem rses_new {W0 W W' : World} {b : Nat} {L : LkT} {S : SsT} (ht : TabW W0) (h0 : Up W0 W) (h : SesAt W' b (fun i => W.heap.size ≤ i ∧ i < W'.heap.size) L S) (hu : Up W W') : RSes W0.heap.size L S (.tuple #[.pointer (some ⟨b, 0, none⟩), .int .i64 0]) W' := by
  have z0 := h0.size
  have h4 := ht.lt
  have z1 := hu.size
  exact ⟨b, rfl, by omega, h.wide (fun k hk => ⟨by omega, hk.2⟩) (fun k hk => hk.2) (fun e => by omega)⟩
def lay0 : SsT := newSs 2 37
theorem hello_tk (hs : TmT → List Int → TmT) (S : SsT) : ∀ j e, (feedT lk0.rd helloL).out[j]? = some e → TkOk ((((feedT lk0.rd helloL).out.take j).foldl (stepLk (bdS hs)) ({ lk0 with rd := { feedT lk0.rd helloL with out := [] } }, (S, 0))).1) e := by
  intro j e he
  rw [hello_out] at he ⊢
  rw [fold_quiet (S, 0) (helloE.take j) _ (fun e h => hello_kinds e (List.mem_of_mem_take h))]
  exact hello_ok j e he
theorem hello_bd (hs : TmT → List Int → TmT) (S : SsT) : ∀ j e y, (feedT lk0.rd helloL).out[j]? = some e → (takeLk (((feedT lk0.rd helloL).out.take j).foldl (stepLk (bdS hs)) ({ lk0 with rd := { feedT lk0.rd helloL with out := [] } }, (S, 0))).1 e).2 = some y → OkS hs (takeLk (((feedT lk0.rd helloL).out.take j).foldl (stepLk (bdS hs)) ({ lk0 with rd := { feedT lk0.rd helloL with out := [] } }, (S, 0))).1 e).1 (((feedT lk0.rd helloL).out.take j).foldl (stepLk (bdS hs)) ({ lk0 with rd := { feedT lk0.rd helloL with out := [] } }, (S, 0))).2 y := by
  intro j e y he hy
  rw [hello_out] at he
  have hk := hello_kinds e (List.mem_of_getElem? he)
  rw [take_quiet _ e hk.1 hk.2] at hy
  cases hy
theorem hello_fin (hs : TmT → List Int → TmT) (S : SsT) : (feedT lk0.rd helloL).out.foldl (stepLk (bdS hs)) ({ lk0 with rd := { feedT lk0.rd helloL with out := [] } }, (S, 0)) = (lk1, (S, 0)) := by
  rw [hello_out, fold_quiet (S, 0) helloE _ hello_kinds]
  rfl
theorem sesnew2 {W : World} {A : Option Addr} {c : Nat} (hb : Bt W (fun _ => True) A 1 c [2]) (ht : TabW W) :
    Calls Tryz.prog 10 #[.agg #[.string ⟨#[73, 66, 77, 45, 51, 50, 55, 56, 45, 50, 45, 69]⟩, .string ⟨#[]⟩, .slice A 1 c, .bool false, .int .i64 2, .int .i64 37]] W fun e w' => ∃ b, e = .returned (.tuple #[.pointer (some ⟨b, 0, none⟩), .int .i64 0]) ∧ SesAt w' b (fun i => W.heap.size ≤ i ∧ i < w'.heap.size) lk0 lay0 ∧ Up W w' := by
  obtain ⟨g, off, rfl, zg⟩ := (hb.sl (by omega)).form (by omega)
  exact sesnew_is sName_ok hb (fun W' hW => rises1_is (((hb.up hW).sl (by omega)).cell (i := 0) (by omega))) (by omega) (by omega) (by omega) (by decide) ht
set_option maxRecDepth 100000 in
set_option maxHeartbeats 6400000 in
theorem lay_is {w : World} (ht : TabW w) : Calls Tryz.prog 23 #[.agg #[.int .u8 0, .int .u8 0, .bool false]] w fun e w' => ∃ b, e = .returned (.pointer (some ⟨b, 0, none⟩)) ∧ SesAt w' b (fun i => w.heap.size ≤ i ∧ i < w'.heap.size) lk2 lay0 ∧ Up w w' := by
  obtain ⟨W0, hW0⟩ : ∃ W0, w.alloc (.cells #[.int .u8 0, .int .u8 0, .bool false] 23) = W0 := ⟨_, rfl⟩
  have hu0 : Up w W0 := by rw [← hW0]; exact (Up.refl w).alloc _
  have sb : St W0 23 w.heap.size [.int .u8 0, .int .u8 0, .bool false] := by rw [← hW0]; exact St.new w _ _ rfl
  have k0 := sb.cell 0 (v := .int .u8 0) rfl
  have k1 := sb.cell 1 (v := .int .u8 0) rfl
  have k2 := sb.cell 2 (v := .bool false) rfl
  have zb := sb.lt
  have HU0 := Lib.hid hu0
  have HW0 := Lib.hid hW0
  have HT := Lib.hid ht
  clear hW0 hu0 ht
  go_enter Tryz.func23, Tryz.ntmps23
  go_wp2_with fail
  rw [HW0.out]
  obtain ⟨B, hB⟩ : ∃ B, w.heap.size = B := ⟨_, rfl⟩
  rw [hB] at k0 k1 k2 zb sb ⊢
  have HB := Lib.hid hB
  have HTW := Lib.hid (HT.out.up HU0.out)
  have SB := Lib.hid sb
  clear hB sb
  refine wp_region_mixT 14 (NS := [(6, RBt [2]), (9, RF4 [2]), (14, RF6 [2]), (15, RSes W0.heap.size lk0 lay0), (5, RSes W0.heap.size lk0 lay0), (16, RSp W0.heap.size lk0 lay0), (3, RSp W0.heap.size lk0 lay0)]) [6, 9, 14, 15, 5, 16, 3] rfl (by kernel_rfl) (by kernel_rfl) (by simp) (by intro p hp; simp only [List.mem_cons, List.mem_nil_iff, or_false] at hp; rcases hp with rfl | rfl | rfl | rfl | rfl | rfl | rfl; all_goals (first | exact rsl_up _ | exact rptr_up _ | exact rms_up _ | exact spanAt_up _ _ _ _ _ | exact rcs_up _ | exact rfb_up _ _ | exact rbx_up _ | exact rop_up _ _ _ _ _ _ _ _ | exact rn_up _ | exact rbt_up _ | exact rf4_up _ | exact rf6_up _ | exact rses_up _ _ _ | exact rsp_up _ _ _)) ?_
  simp only [List.take_succ_cons, List.take_zero, List.drop_succ_cons, List.drop_zero]
  repeat (first
    | (refine mix_skip rfl rfl ?_; simp only [Act.put, List.setIfInBounds_toArray, List.set_cons_succ, List.set_cons_zero])
    | (refine mix_q rfl rfl rfl (by kernel_rfl) rfl rfl rfl ?_
       apply Exists.intro
       refine ⟨fun Wm => ?_, ?_⟩
       · simp only [fin]
         repeat (rintro (vm : Value) hvm; first | (obtain ⟨gm, om, rfl, hgm, hcm⟩ := hvm) | (obtain ⟨gm, om, cm, rfl, h2m, hxm, hgm, hcm, hdm⟩ := rsl_two hvm) | (obtain ⟨Am, nm, cm, rfl, hnm, hlm, hmm, hrm⟩ := hvm; (try simp only [List.length_cons, List.length_nil, Nat.zero_add, Nat.reduceAdd] at hnm); subst hnm) | (have hvs := hvm; obtain ⟨bm1, bm2, bm3, rfl, hbl, hbz, hbc⟩ := hvm) | (obtain ⟨gm, rfl, hbm, hlm⟩ := hvm))
         intro K hK
         go_wp2_with ((first | (go_at_call 10; (with_reducible refine (sesnew2 (by assumption) (HTW.out.up (up_upOf _ _))).mono ?_); rintro e w' ⟨bx, rfl, hsx, hux⟩) | (go_at_call 11; (with_reducible refine (model_is false _).mono ?_); rintro e w' ⟨rfl, hux⟩) | (go_at_call 12; (with_reducible refine (page_is false _).mono ?_); rintro e w' ⟨rfl, hux⟩)))
         refine hK _ _ ?_ ?_ ?_
         · (repeat (first | with_reducible exact Up.refl _ | with_reducible refine Up.alloc ?_ _ | with_reducible refine Up.drew ?_ | with_reducible refine Up.drewN ?_ _ | with_reducible refine Up.setCell ?_ (by (try simp) <;> omega) _ | with_reducible assumption | with_reducible refine Up.trans ?_ (by assumption)))
         · rfl
         · exact tmps_at rfl
       simp only [Act.put, List.setIfInBounds_toArray, List.set_cons_succ, List.set_cons_zero])
    | (refine mix_n rfl rfl rfl (by kernel_rfl) rfl rfl rfl ?_ ?_
       · intro Wm
         simp only [fin]
         repeat (rintro (vm : Value) hvm; first | (obtain ⟨gm, om, rfl, hgm, hcm⟩ := hvm) | (obtain ⟨gm, om, cm, rfl, h2m, hxm, hgm, hcm, hdm⟩ := rsl_two hvm) | (obtain ⟨Am, nm, cm, rfl, hnm, hlm, hmm, hrm⟩ := hvm; (try simp only [List.length_cons, List.length_nil, Nat.zero_add, Nat.reduceAdd] at hnm); subst hnm) | (have hvs := hvm; obtain ⟨bm1, bm2, bm3, rfl, hbl, hbz, hbc⟩ := hvm) | (obtain ⟨gm, rfl, hbm, hlm⟩ := hvm))
         intro K hK
         go_wp2_with ((first | (go_at_call 10; (with_reducible refine (sesnew2 (by assumption) (HTW.out.up (up_upOf _ _))).mono ?_); rintro e w' ⟨bx, rfl, hsx, hux⟩) | (go_at_call 11; (with_reducible refine (model_is false _).mono ?_); rintro e w' ⟨rfl, hux⟩) | (go_at_call 12; (with_reducible refine (page_is false _).mono ?_); rintro e w' ⟨rfl, hux⟩)))
         apply hK
         · (repeat (first | with_reducible exact Up.refl _ | with_reducible refine Up.alloc ?_ _ | with_reducible refine Up.drew ?_ | with_reducible refine Up.drewN ?_ _ | with_reducible refine Up.setCell ?_ (by (try simp) <;> omega) _ | with_reducible assumption | with_reducible refine Up.trans ?_ (by assumption)))
         · rfl
         · exact tmps_at rfl
         · first | exact rsl_lit _ _ _ _ _ _ rfl rfl (by simp [maxLen]) rfl | exact ⟨_, _, rfl, hgm, hcm⟩ | exact ⟨_, _, rfl, hgm, hdm⟩ | exact rn_take hgm hcm (by omega) | assumption | exact ⟨_, _, _, rfl, rfl, by assumption, by assumption, by assumption⟩ | exact ⟨_, rfl, hbm, hlm⟩ | exact rses_new HTW.out (up_upOf _ _) hsx hux | exact rbt_lit _ _ _ _ _ rfl rfl (by simp [maxLen]) rfl (by unfold BL; decide) | exact rbx_new _ _ (Nat.le_trans (by simp) (up_upOf _ _).size)
       simp only [Act.put, List.setIfInBounds_toArray, List.set_cons_succ, List.set_cons_zero]))
  refine mix_nil ?_
  intro w1 hb_w1
  simp only [fin]
  intro vm_w1_0 hvm_w1_0
  intro vm_w1_1 hvm_w1_1
  intro vm_w1_2 hvm_w1_2
  intro vm_w1_3 hvm_w1_3
  intro vm_w1_4 hvm_w1_4
  intro vm_w1_5 hvm_w1_5
  intro vm_w1_6 hvm_w1_6
  simp only [Act.put, List.setIfInBounds_toArray, List.set_cons_succ, List.set_cons_zero]
  have hu_w1 : Up W0 w1 := by (repeat (first | with_reducible exact Up.refl _ | with_reducible refine Up.alloc ?_ _ | with_reducible refine Up.drew ?_ | with_reducible refine Up.drewN ?_ _ | with_reducible refine Up.setCell ?_ (by (try simp) <;> omega) _ | with_reducible assumption | with_reducible refine Up.trans ?_ (by assumption)))
  have hz_w1 := Up.size hb_w1
  try simp at hz_w1
  obtain ⟨bc_w1_0, bf_w1_0⟩ := hu_w1.at_ (B) (by omega)
  have zb_w1_0 : B < w1.heap.size := by omega
  go_wp2_with fail
  obtain ⟨b, rfl, hz1, hses1⟩ := hvm_w1_6
  clear hvm_w1_0 hvm_w1_1 hvm_w1_2 hvm_w1_3 hvm_w1_4 hvm_w1_5
  have HS1 := Lib.hid hses1
  have HU1 := Lib.hid hu_w1
  have HZ := Lib.hid (And.intro hz1 (show B + 1 ≤ W0.heap.size by omega))
  have hk2 : w1.cell? ⟨B, 2, none⟩ = some (.bool false) := (bc_w1_0 2).trans k2
  clear hses1 hu_w1 hb_w1 hz1 hz_w1 bc_w1_0 bf_w1_0 k0 k1 k2 zb
  go_wp2_with fail
  refine (hello_is _ _ _ _ _).mono ?_
  rintro e w2 ⟨A2, c2, rfl, hs2, hu2⟩
  have hu12 : Up w1 w2 := ((Up.refl w1).alloc _).trans hu2
  have hb2 : Bt w2 (fun g => w1.heap.size ≤ g) A2 helloL.length c2 helloL := Bt.of_sl hs2 (fun g hg => by
    cases A2 with
    | none => simp [blk] at hg
    | some p =>
      simp [blk] at hg
      subst hg
      have := hs2.at_ p rfl
      simp at this
      omega)
  have HB2 := Lib.hid hb2
  have HU12 := Lib.hid hu12
  clear hs2 hu2 hb2 hu12
  go_wp2_with fail
  refine (sbytes_is (hs := fun T _ => T) (fin := (lk1, (lay0, 0))) (HS1.out.up HU12.out) HB2.out (fun k hk e => by omega) (by decide) (by decide) (by decide) (by decide) (hello_tk _ _) (hello_bd _ _) (hello_fin _ _)).mono ?_
  rintro e w3 ⟨rfl, hs3, hk3⟩
  have HS3 := Lib.hid hs3
  have HK3 := Lib.hid hk3
  clear hs3 hk3
  go_wp2_with fail
  refine (sout_is HS3.out).mono ?_
  rintro e w4 ⟨A4, c4, G4, F4, rfl, -, hs4, hf4, -, -, hk4, hz4⟩
  have HS4 := Lib.hid hs4
  have HK4 := Lib.hid (And.intro hk4 hf4)
  clear hs4 hk4 hf4
  go_wp2_with fail
  go_ret
  have z0 := HU0.out.size
  have z1 := HU1.out.size
  have z2 := HU12.out.size
  have z3 := HK3.out.size
  have hb := HB.out
  have hg : ∀ k, Gr (fun i => W0.heap.size ≤ i ∧ i < w1.heap.size) w2 w3 k → w.heap.size ≤ k ∧ k < w4.heap.size := fun k hk => by
    rcases hk with hk | hk <;> omega
  refine ⟨b, rfl, HS4.out.wide (fun k hk => hg k (HK4.out.2 k hk)) (fun k hk => hk.2) (fun e => by have := HT.out.lt; omega), ?_⟩
  have u2 : Up w w2 := (HU0.out.trans HU1.out).trans HU12.out
  exact (u2.keep HK3.out (fun k hk => by omega)).keep HK4.out.1 (fun k hk => (hg k hk).1)
end Go.Proofs.YtamfjgioajmnpaaGreatDoor
namespace Go.Proofs.YtamfjgioajmnpaaGreatDoor
open Go.RowKit
set_option linter.unusedVariables false
set_option linter.unusedSimpArgs false

theorem ses_tab {w : World} {b : Nat} {F : Nat → Prop} {L : LkT} {S : SsT} (h : SesAt w b F L S) : TabW w := by
  obtain ⟨bl, Fl, Fr, h⟩ := h
  exact h.ss.tab
theorem ses_ntF {w : World} {b : Nat} {F : Nat → Prop} {L : LkT} {S : SsT} (h : SesAt w b F L S) : ¬ F 4 := by
  obtain ⟨bl, Fl, Fr, h⟩ := h
  exact h.nt
set_option maxRecDepth 100000 in
set_option maxHeartbeats 6400000 in
theorem stype_is {w : World} {b : Nat} {F : Nat → Prop} {L : LkT} {S : SsT} {T' : TmT} (h : SesAt w b F L S) (hm : L.mode = 1) (hd : TKeyDo S.T T' 1 65 0 []) (ho : L.out.length ≤ 1000000000) :
    Calls Tryz.prog 48 #[.pointer (some ⟨b, 0, none⟩), .string ⟨#[65]⟩] w (SesPost w b F L { S with T := T' } (.tuple #[.int .i64 1, .int .i64 0])) := by
  have hit0 : ∀ ty, (Instr.next (.pointer (some ⟨w.heap.size, 0, none⟩)) true ty).run Tryz.prog (w.iter ⟨#[65]⟩ 0) = .ok (.tuple #[.bool true, .int .i64 0, .int .i32 65]) (w.iter ⟨#[65]⟩ 1) := fun ty => run_next_any w ⟨#[65]⟩ 0 ty (by decide)
  have hu1 : Up w (w.iter ⟨#[65]⟩ 1) := (Up.refl w).alloc _
  have hq : (w.iter ⟨#[65]⟩ 1).heap[w.heap.size]? = some (.stringIter ⟨#[65]⟩ 1) := World.iter_heap w ⟨#[65]⟩ 1
  obtain ⟨W1, hW1⟩ : ∃ W1, w.iter ⟨#[65]⟩ 1 = W1 := ⟨_, rfl⟩
  rw [hW1] at hit0 hu1 hq
  have hnq : ¬ F w.heap.size := fun e => by have := h.lt _ e; omega
  have HK := Lib.hid (skey_is (h.up hu1) hm hd (by simp) (by simp) ho)
  rw [show sendT L [] = L from rfl] at HK
  have HW := Lib.hid (And.intro h.lt (And.intro (ses_tab h) (ses_ntF h)))
  have HU1 := Lib.hid hu1
  clear h hd hW1 hu1
  go_enter Tryz.func48, Tryz.ntmps48
  go_wp2_with fail
  refine wp_loop_rounds 2 ?_
  rw [rounds_succ]
  go_wp2_with fail
  refine HK.out.mono ?_
  rintro e w1 ⟨rfl, h1, h2⟩
  have hit1 : ∀ ty, (Instr.next (.pointer (some ⟨w.heap.size, 0, none⟩)) true ty).run Tryz.prog w1 = .ok (.tuple #[.bool false]) w1 := fun ty => Lib.run_next_end_at w1 w.heap.size ⟨#[65]⟩ 1 ty ((h2.block _ (Array.getElem?_eq_some_iff.1 hq).1 hnq).trans hq) (by decide)
  have HF := Lib.hid (And.intro h1 h2)
  clear h1 h2 hit0 hq
  go_wp2_with fail
  rw [rounds_succ]
  go_wp2_with fail
  go_ret2
  have z1 := HU1.out.size
  have hkF : Keep F w w1 := (Keep.of_up HU1.out).trans HF.out.2
  exact ⟨rfl, HF.out.1.wide (fun k hk => hk.imp id (fun h => ⟨by omega, h.2⟩)) (Gr.lt HW.out.1 hkF.size) (gr_nt HW.out.2.1 HW.out.2.2), hkF⟩
end Go.Proofs.YtamfjgioajmnpaaGreatDoor
namespace Go.Proofs.YtamfjgioajmnpaaGreatDoor
open Go.RowKit
set_option linter.unusedVariables false
set_option linter.unusedSimpArgs false

/-- all blocks since w -/
def since (w c : World) : Nat → Prop := fun i => w.heap.size ≤ i ∧ i < c.heap.size
theorem ses_since {w a c : World} {b : Nat} {L : LkT} {S : SsT} (ht : TabW w) (hu : Up w a) (h : SesAt c b (Gr (since w a) a c) L S) (hk : Keep (since w a) a c) : SesAt c b (since w c) L S ∧ Up w c := by
  have z1 := hu.size
  have z2 := hk.size
  have z3 := ht.lt
  refine ⟨h.wide (fun k hk => ?_) (fun k hk => hk.2) (fun e => by have e1 := e.1; omega), hu.keep hk (fun k hk => hk.1)⟩
  rcases hk with hk | hk
  · exact ⟨hk.1, Nat.lt_of_lt_of_le hk.2 z2⟩
  · exact ⟨by omega, hk.2⟩
theorem ses_ups {w a c : World} {b : Nat} {L : LkT} {S : SsT} (ht : TabW w) (h : SesAt a b (since w a) L S) (hu : Up a c) : SesAt c b (since w c) L S :=
  (h.up hu).wide (fun k hk => ⟨hk.1, Nat.lt_of_lt_of_le hk.2 hu.size⟩) (fun k hk => hk.2) (fun e => by have e1 := e.1; have := ht.lt; omega)
def hsF (T : TmT) (d : List Int) : TmT := { T with X := scr1, lock := 0, aid := 96, mode := 0, V := bumpV (bumpV T.V 3 1) 2 0 }
def formP : List Int := formL ++ [255, 239]
def ssF : SsT := { lay0 with T := hsF lay0.T formL, errs := [0] }
def lkF : LkT := { lk2 with mkr := ⟨[], false⟩ }
theorem lk2_mode : lk2.mode = 1 := lk1_mode
theorem lk2_rdout : lk2.rd.out = [] := by
  show lk1.rd.out = []
  rw [lk1_rd]
  rfl
theorem form_start : ({ lk2 with rd := { feedT lk2.rd formP with out := [] } } : LkT) = lk2 := by
  rw [show feedT lk2.rd formP = { lk2.rd with out := formE } from form_feed]
  have h := lk2_rdout
  generalize lk2 = L at *
  obtain ⟨⟨a, b, c, d, e, f, o⟩, S, G, en, m, u, q, md⟩ := L
  simp only at h
  subst h
  rfl
theorem form_outs : (feedT lk2.rd formP).out = formE := by
  rw [show feedT lk2.rd formP = { lk2.rd with out := formE } from form_feed]
def lkD : LkT := { lk2 with mkr := ⟨formL, false⟩ }
theorem form_step0 (r : SsT × Nat) : stepLk (bdS hsF) (lk2, r) ⟨0, 0, 0, formL, false, false⟩ = (lkD, r) := by
  have := fold_quiet (bd := bdS hsF) r [⟨0, 0, 0, formL, false, false⟩] lk2 (by decide)
  rw [List.foldl_cons, List.foldl_nil, List.foldl_cons, List.foldl_nil, lk2_data] at this
  exact this
theorem form_take1 : takeLk lkD ⟨1, 239, 0, [], false, false⟩ = (lkF, some (bareEv 1 formL)) := rfl
theorem form_tk : ∀ j e, (feedT lk2.rd formP).out[j]? = some e → TkOk ((((feedT lk2.rd formP).out.take j).foldl (stepLk (bdS hsF)) ({ lk2 with rd := { feedT lk2.rd formP with out := [] } }, (lay0, 0))).1) e := by
  intro j e he
  rw [form_start]
  rw [form_outs] at he ⊢
  have hj : j < 2 := (List.getElem?_eq_some_iff.1 he).1
  match j, hj, he with
  | 0, _, he =>
    cases he
    show TkOk lk2 _
    exact ⟨by decide, by decide, by decide, fun h => absurd h (by decide), fun _ => by rw [lk2_mode]; decide, fun h => absurd h (by decide), Nat.zero_le _, by decide⟩
  | 1, _, he =>
    cases he
    show TkOk (stepLk (bdS hsF) (lk2, (lay0, 0)) ⟨0, 0, 0, formL, false, false⟩).1 _
    rw [form_step0]
    exact ⟨by decide, by decide, by decide, fun h => absurd h (by decide), fun h => absurd h (by decide), fun _ => ⟨rfl, lk2_mode, rfl⟩, Nat.zero_le _, by decide⟩
theorem form_bd : ∀ j e y, (feedT lk2.rd formP).out[j]? = some e → (takeLk (((feedT lk2.rd formP).out.take j).foldl (stepLk (bdS hsF)) ({ lk2 with rd := { feedT lk2.rd formP with out := [] } }, (lay0, 0))).1 e).2 = some y → OkS hsF (takeLk (((feedT lk2.rd formP).out.take j).foldl (stepLk (bdS hsF)) ({ lk2 with rd := { feedT lk2.rd formP with out := [] } }, (lay0, 0))).1 e).1 (((feedT lk2.rd formP).out.take j).foldl (stepLk (bdS hsF)) ({ lk2 with rd := { feedT lk2.rd formP with out := [] } }, (lay0, 0))).2 y := by
  intro j e y he hy
  rw [form_start] at *
  rw [form_outs] at *
  have hj : j < 2 := (List.getElem?_eq_some_iff.1 he).1
  match j, hj, he with
  | 0, _, he =>
    cases he
    rw [take_quiet _ _ (by decide) (by decide)] at hy
    cases hy
  | 1, _, he =>
    cases he
    have e1 : ((formE.take 1).foldl (stepLk (bdS hsF)) (lk2, (lay0, 0))) = (lkD, (lay0, 0)) := form_step0 _
    rw [e1] at hy ⊢
    rw [form_take1] at hy ⊢
    injection hy with hy
    subst hy
    exact ⟨rfl, by decide, by decide, form_host rfl⟩
theorem form_fin : (feedT lk2.rd formP).out.foldl (stepLk (bdS hsF)) ({ lk2 with rd := { feedT lk2.rd formP with out := [] } }, (lay0, 0)) = (lkF, (ssF, 1)) := by
  rw [form_start, form_outs]
  show stepLk (bdS hsF) (stepLk (bdS hsF) (lk2, (lay0, 0)) ⟨0, 0, 0, formL, false, false⟩) ⟨1, 239, 0, [], false, false⟩ = _
  rw [form_step0]
  rfl
def ssA : SsT := { ssF with T := { ssF.T with X := scr2, V := bumpV ssF.T.V 1 1, lock := 0, ins := false } }
def ssB : SsT := { ssA with T := { ssA.T with lock := 1, ins := false, aid := 125, V := bumpV (bumpV ssA.T.V 1 1) 2 1 } }
def lkB : LkT := { lkF with out := sentL ++ [255, 239] }
set_option maxRecDepth 100000 in
set_option maxHeartbeats 6400000 in
theorem works_is {w : World} (ht : TabW w) : Calls Tryz.prog 9 #[] w fun e w' => e = .returned (.bool true) ∧ Up w w' := by
  have HT := Lib.hid ht
  have HL := Lib.hid (lay_is ht)
  clear ht
  go_enter Tryz.func9, Tryz.ntmps9
  go_wp2_with fail
  refine HL.out.mono ?_
  rintro e w1 ⟨b, rfl, hs1, hu1⟩
  have HS1 := Lib.hid hs1
  have HU1 := Lib.hid hu1
  clear hs1 hu1
  go_wp2_with fail
  refine (form_is w1).mono ?_
  rintro e w2 ⟨A2, rfl, hb2, hu2⟩
  have HB2 := Lib.hid hb2
  have HU2 := Lib.hid hu2
  clear hb2 hu2
  go_wp2_with fail
  refine (show Calls _ _ _ _ (NB w2 formP) from wrap_is HB2.out (by decide) (by omega)).mono ?_
  rintro e w3 ⟨A3, c3, rfl, hr3, hu3⟩
  have hb3 : Bt w3 (fun g => w2.heap.size ≤ g) A3 formP.length c3 formP := Bt.of_row hr3 (by unfold BL; decide)
  have HB3 := Lib.hid hb3
  have HU3 := Lib.hid (HU2.out.trans hu3)
  have HU23 := Lib.hid hu3
  clear hr3 hb3 hu3
  go_wp2_with fail
  have hs3 := ses_ups HT.out HS1.out HU3.out
  have hs3' := HS1.out.up HU3.out
  refine (sbytes_is (hs := hsF) (fin := (lkF, (ssF, 1))) hs3' HB3.out (fun k hk e => by have := HU2.out.size; have e2 := e.2; omega) (by decide) (by decide) (by decide) (by decide) form_tk form_bd form_fin).mono ?_
  rintro e w4 ⟨rfl, hs4, hk4⟩
  have hw4 : SesAt w4 b (since w w4) lkF ssF ∧ Up w w4 := by
    have z1 := HU1.out.size
    have z3 := HU3.out.size
    have z4 := hk4.size
    have z0 := HT.out.lt
    refine ⟨hs4.wide (fun k hk => ?_) (fun k hk => hk.2) (fun e => by have e1 := e.1; omega), (HU1.out.trans HU3.out).keep hk4 (fun k hk => hk.1)⟩
    rcases hk with hk | hk
    · exact ⟨hk.1, by have := hk.2; omega⟩
    · exact ⟨by omega, hk.2⟩
  have HW4 := Lib.hid hw4
  clear hs3 hs3' hs4 hk4 hw4
  go_wp2_with fail
  refine (stype_is HW4.out.1 lk2_mode (a_key rfl rfl rfl rfl) (Nat.zero_le _)).mono ?_
  rintro e w5 ⟨rfl, hs5, hk5⟩
  have hw5 : SesAt w5 b (since w w5) lkF ssA ∧ Up w w5 := ses_since HT.out HW4.out.2 hs5 hk5
  have HW5 := Lib.hid hw5
  clear hs5 hk5 hw5
  go_wp2_with fail
  refine (skey_is (T' := ssB.T) HW5.out.1 lk2_mode (enter_key rfl rfl rfl) (by decide) (by decide) (Nat.zero_le _)).mono ?_
  rintro e w6 ⟨rfl, hs6, hk6⟩
  have hw6 : SesAt w6 b (since w w6) lkB ssB ∧ Up w w6 := ses_since HT.out HW5.out.2 hs6 hk6
  have HW6 := Lib.hid hw6
  clear hs6 hk6 hw6
  go_wp2_with fail
  refine (sout_is HW6.out.1).mono ?_
  rintro e w7 ⟨A7, c7, G7, F7, rfl, hb7, hs7, -, -, -, hk7, -⟩
  have HB7 := Lib.hid hb7
  have HW7 := Lib.hid (HW6.out.2.keep hk7 (fun k hk => hk.1))
  clear hb7 hs7 hk7
  go_wp2_with fail
  have hu8 : Up w7 (w7.alloc (.cells #[.int .u8 125, .int .u8 64, .int .u8 196, .int .u8 17, .int .u8 64, .int .u8 195, .int .u8 193, .int .u8 255, .int .u8 239] 5)) := (Up.refl w7).alloc _
  refine (same_at (l' := sentL ++ [255, 239]) (HB7.out.up hu8).rd (reads_at w7 w7.heap.size 1 9 #[.int .u8 125, .int .u8 64, .int .u8 196, .int .u8 17, .int .u8 64, .int .u8 195, .int .u8 193, .int .u8 255, .int .u8 239] 5 rfl rfl) HB7.out.bytes (by unfold sentL; decide) (decide_eq_true rfl)).mono ?_
  rintro e w8 ⟨rfl, rfl⟩
  go_wp2_with fail
  go_ret
  exact ⟨rfl, HW7.out.trans hu8⟩
end Go.Proofs.YtamfjgioajmnpaaGreatDoor
