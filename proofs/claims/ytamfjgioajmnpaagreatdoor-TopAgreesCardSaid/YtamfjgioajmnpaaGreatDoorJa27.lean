/-
The reader's tell, end, command, take and Feed. Conditions: how it lies, that what it holds is short.
-/
import Derived.Test.YtamfjgioajmnpaaGreatDoorJa26
namespace Go.Proofs.YtamfjgioajmnpaaGreatDoor
open Go.RowKit
set_option linter.unusedVariables false
set_option linter.unusedSimpArgs false

section
variable {w w' : World} {b : Nat} {F G : Nat → Prop} {R : RdT} {Ad As Ao : Option Addr} {cd cs co : Nat} {xs : List EvV}
theorem RdI.up (h : RdI w b F R Ad cd As cs Ao co xs) (hu : Up w w') : RdI w' b F R Ad cd As cs Ao co xs :=
  ⟨h.st.up hu, h.fb, h.data.up hu, h.sub.up hu, h.out.up hu, h.bare, h.ne, h.ned, h.bd, h.bsu, fun k hk => by have := h.lt k hk; have := hu.size; omega⟩
theorem RdI.wide (h : RdI w b F R Ad cd As cs Ao co xs) (hF : ∀ k, F k → G k) (hG : ∀ k, G k → k < w.heap.size) : RdI w b G R Ad cd As cs Ao co xs :=
  ⟨h.st, hF _ h.fb, h.data.mono hF, h.sub.mono hF, h.out.mono hF, h.bare, h.ne, h.ned, h.bd, h.bsu, hG⟩
theorem RdAt.up (h : RdAt w b F R) (hu : Up w w') : RdAt w' b F R := by
  obtain ⟨Ad, cd, As, cs, Ao, co, xs, h, hn⟩ := h
  exact ⟨Ad, cd, As, cs, Ao, co, xs, h.up hu, hn⟩
theorem RdAt.wide (h : RdAt w b F R) (hF : ∀ k, F k → G k) (hG : ∀ k, G k → k < w.heap.size) : RdAt w b G R := by
  obtain ⟨Ad, cd, As, cs, Ao, co, xs, h, hn⟩ := h
  exact ⟨Ad, cd, As, cs, Ao, co, xs, h.wide hF hG, hn⟩
theorem RdAt.lt (h : RdAt w b F R) : ∀ k, F k → k < w.heap.size := by
  obtain ⟨Ad, cd, As, cs, Ao, co, xs, h, hn⟩ := h
  exact h.lt
theorem RdAt.fb (h : RdAt w b F R) : F b := by
  obtain ⟨Ad, cd, As, cs, Ao, co, xs, h, hn⟩ := h
  exact h.fb
theorem RdAt.keep {E : Nat → Prop} (h : RdAt w b F R) (hk : Keep E w w') (he : ∀ k, F k → ¬ E k) : RdAt w' b F R := by
  obtain ⟨Ad, cd, As, cs, Ao, co, xs, h, hn⟩ := h
  exact ⟨Ad, cd, As, cs, Ao, co, xs, ⟨h.st.keep hk (he _ h.fb), h.fb, h.data.keep hk (fun g hg => he g (h.data.in_ g hg)), h.sub.keep hk (fun g hg => he g (h.sub.in_ g hg)), h.out.keep hk he, h.bare, h.ne, h.ned, h.bd, h.bsu, fun k hkk => by have := h.lt k hkk; have := hk.size; omega⟩, hn⟩
theorem flushT_out (R : RdT) : (flushT R).out.length ≤ R.out.length + 1 := by unfold flushT; simp only; split <;> simp
end
set_option maxRecDepth 100000 in
set_option maxHeartbeats 6400000 in
theorem tell_is {w : World} {b : Nat} {F : Nat → Prop} {R : RdT} {Ad As Ao : Option Addr} {cd cs co : Nat} {xs : List EvV} (x : EvV) (h : RdI w b F R Ad cd As cs Ao co xs) (hn : R.out.length ≤ 200000) (hx : (x.A = none ∧ x.c = 0 ∧ x.data = []) ∨ (x.A = As ∧ x.c = cs ∧ x.data = R.sub)) :
    Calls Tryz.prog 171 #[.pointer (some ⟨b, 0, none⟩), .agg #[.int .i64 x.kind, .int .u8 x.verb, .int .u8 x.opt, .slice x.A x.data.length x.c, .bool x.long, .bool x.broken]] w (FlPost w b F (tellT R x.bare) As cs (flX R Ad cd xs ++ [x])) := by
  obtain ⟨i0, hi, hz0, hz1, hz2⟩ := info_parts info_ev
  have H := Lib.hid h
  have HX := Lib.hid hx
  have hu0 : Up w (w.alloc (.cells #[.int .i64 x.kind, .int .u8 x.verb, .int .u8 x.opt, .slice x.A x.data.length x.c, .bool x.long, .bool x.broken] 165)) := (Up.refl w).alloc _
  have HU0 := Lib.hid hu0
  have HFL := Lib.hid (flush_is (h.up hu0) hn)
  have HO := Lib.hid (flushT_out R)
  have ho := flushT_out R
  clear h hx hu0
  go_enter Tryz.func171, Tryz.ntmps171
  go_wp2_with fail
  refine HFL.out.mono ?_
  rintro e w1 ⟨rfl, ⟨Ao1, co1, h1⟩, hk1⟩
  have zz : ¬ F w.heap.size := fun hF => by have := H.out.lt _ hF; omega
  have sb : St w1 165 w.heap.size x.cells := (St.new w _ x.cells rfl).keep hk1 zz
  have b0 := sb.cell 0 (v := .int .i64 x.kind) rfl
  have b1 := sb.cell 1 (v := .int .u8 x.verb) rfl
  have b2 := sb.cell 2 (v := .int .u8 x.opt) rfl
  have b3 := sb.cell 3 (v := .slice x.A x.data.length x.c) rfl
  have b4 := sb.cell 4 (v := .bool x.long) rfl
  have b5 := sb.cell 5 (v := .bool x.broken) rfl
  have z1 := sb.lt
  have H1 := Lib.hid h1
  have HK1 := Lib.hid hk1
  have HR := Lib.hid (show Row 165 6 w1 (Gr F (w.alloc (.cells #[.int .i64 x.kind, .int .u8 x.verb, .int .u8 x.opt, .slice x.A x.data.length x.c, .bool x.long, .bool x.broken] 165)) w1) Ao1 (flushT R).out.length co1 ((flX R Ad cd xs).flatMap EvV.cells) from h1.olen ▸ h1.out.row)
  have c6 := h1.st.cell 6 (v := .slice Ao1 (flushT R).out.length co1) rfl
  have f6 := h1.st.free 6
  have zb := h1.st.lt
  have hq1 : (flushT R).out.length + 1 ≤ maxLen := by simp [maxLen]; omega
  have hq2 : ((flushT R).out.length + 1) * 48 ≤ 140737488355328 := by omega
  clear h1 hk1 sb zz ho
  obtain ⟨Q, hQ⟩ : ∃ Q, flushT R = Q := ⟨_, rfl⟩
  rw [hQ] at H1 HR c6 hq1 hq2 HO
  have HQ := Lib.hid hQ
  clear hQ
  obtain ⟨w0, hw0⟩ : ∃ w0, w.alloc (.cells #[.int .i64 x.kind, .int .u8 x.verb, .int .u8 x.opt, .slice x.A x.data.length x.c, .bool x.long, .bool x.broken] 165) = w0 := ⟨_, rfl⟩
  rw [hw0] at H1 HK1 HR HU0
  have HW0 := Lib.hid hw0
  clear hw0 HFL
  go_wp2_with fail
  go_region_law (refine step_row (cx := 1) rfl 162 rfl 165 i0 _ 6 48 Tryz.underlying162 hi hz0 hz1 hz2 rfl (by decide) (by simp [Act.eval, Act.put]) (HR.out.up (by (repeat (first | with_reducible exact Up.refl _ | with_reducible refine Up.alloc ?_ _ | with_reducible refine Up.drew ?_ | with_reducible refine Up.drewN ?_ _ | with_reducible refine Up.setCell ?_ (by (try simp) <;> omega) _ | with_reducible assumption | with_reducible refine Up.trans ?_ (by assumption))))) (by simp [Act.eval, Act.put]) (reads_at w1 w1.heap.size 6 1 x.cells.toArray 165 rfl rfl).drew (EvV.one _) hq1 hq2 ?_; intro A2 c2 w2 hr2 hg2 hb2; have st2 : St w2 249 b (rdVals Q none 0 As cs Ao1 co1) := (H1.out.st.alloc _).drew.grown hg2 (H1.out.out.row.ne H1.out.st ne_rdev); have d6 := st2.cell 6 (v := .slice Ao1 Q.out.length co1) rfl; have e6 := st2.free 6; have d0 := st2.cell 0 (v := .int .i64 Q.st) rfl; have e0 := st2.free 0; have zb2 := st2.lt; have ST2 := Lib.hid st2; have HR2 := Lib.hid hr2; have HG2 := Lib.hid hg2; have HB2 := Lib.hid hb2; clear st2 hr2 hg2 hb2)
  all_goals
    go_wp2
    go_end0
    have hk : Keep (fun k => k = b ∨ blk Ao1 = some k) w1 ((w2.setCell ⟨b, 6, none⟩ (.slice A2 (Q.out.length + 1) c2)).setCell ⟨b, 0, none⟩ (.int .i64 0)) := ((((Keep.refl (fun k => k = b ∨ blk Ao1 = some k) w1).alloc _).drew.trans (Keep.grown HG2.out (fun g hg => .inr hg))).setCell (p := ⟨b, 6, none⟩) (.inl (.inl rfl)) _).setCell (p := ⟨b, 0, none⟩) (.inl (.inl rfl)) _
    obtain ⟨w3, hw3⟩ : ∃ w3, (w2.setCell ⟨b, 6, none⟩ (.slice A2 (Q.out.length + 1) c2)).setCell ⟨b, 0, none⟩ (.int .i64 0) = w3 := ⟨_, rfl⟩
    have hdt : Q.data = [] := by rw [← HQ.out]; rfl
    have hr : RdI w3 b (Gr (Gr F w0 w1) w1 w3) { Q with out := Q.out ++ [x.bare], st := 0 } none 0 As cs A2 c2 (flX R Ad cd xs ++ [x]) := by
      rw [← hw3]
      refine H1.out.putO hk (by simpa [rdVals, hdt] using (ST2.out.set 6 (.slice A2 (Q.out.length + 1) c2)).set 0 (.int .i64 0)) ?_ (by simp [H1.out.bare]) (fun y hy => ?_) hdt rfl
      · have hr := (HR2.out.struct ST2.out ne_rdev 6 (.slice A2 (Q.out.length + 1) c2)).struct (ST2.out.set 6 _) ne_rdev 0 (.int .i64 0)
        rw [show (flX R Ad cd xs ++ [x]).length = Q.out.length + 1 by simp [H1.out.olen], List.flatMap_append, List.flatMap_singleton]
        exact hr.gr (fun g hg => hg.imp id (fun e => by simp at e; omega))
      · rcases List.mem_append.1 hy with hy | hy
        · exact .inl hy
        · rw [List.mem_singleton.1 hy]
          rcases HX.out with ⟨e1, e2, e3⟩ | ⟨e1, e2, e3⟩
          · right; rw [e1, e2, e3]; exact Bt.none_
          · right
            have hb := Bt.of_row H1.out.sub H1.out.bsu
            have e4 : Q.sub = R.sub := by rw [← HQ.out]; rfl
            rw [e4] at hb
            rw [e1, e2, e3]; exact hb
    rw [hw3] at hk ⊢
    have hT : tellT R x.bare = { Q with out := Q.out ++ [x.bare], st := 0 } := by unfold tellT; rw [HQ.out]
    have z1 := HK1.out.size
    have z2 := hk.size
    have hk1 : Keep F w w1 := (Keep.of_up HU0.out).trans HK1.out
    have sub1 : ∀ k, Gr F w0 w1 k → Gr F w w1 k := fun k h => h.imp id (fun h => ⟨by have := HU0.out.size; omega, h.2⟩)
    have hk2 : Keep F w w3 := hk1.gr (hk.mono fun k h => sub1 k (by
      rcases h with rfl | h
      · exact H1.out.fb
      · exact H1.out.out.row.in_ k h))
    rw [hT]
    refine ⟨rfl, ⟨A2, c2, hr.wide (fun k h => ?_) (Gr.lt H.out.lt hk2.size)⟩, hk2⟩
    rcases h with h | h
    · rcases sub1 k h with h | h
      · exact .inl h
      · exact .inr ⟨h.1, by omega⟩
    · exact .inr ⟨by have := hk1.size; omega, h.2⟩
section
variable {w w' : World} {b : Nat} {F G : Nat → Prop} {R R' : RdT} {Ad As Ao : Option Addr} {cd cs co : Nat} {xs : List EvV}
theorem NeS.fl (h : RdI w b F R Ad cd As cs Ao co xs) (hn : NeS As xs) {x : EvV} (hx : x.A = none) : NeS As (flX R Ad cd xs ++ [x]) := by
  intro y hy g hg hg2
  rcases List.mem_append.1 hy with hy | hy
  · unfold flX at hy
    split at hy
    · exact hn y hy g hg hg2
    · rcases List.mem_append.1 hy with hy | hy
      · exact hn y hy g hg hg2
      · rw [List.mem_singleton.1 hy] at hg
        exact h.ne g hg hg2
  · rw [List.mem_singleton.1 hy, hx] at hg
    cases hg
theorem RdI.dropS (h : RdI w b F R Ad cd As cs Ao co xs) (hk : Keep (fun k => k = b) w w') (hs : St w' 249 b (rdVals R' Ad cd none 0 Ao co)) (e1 : R'.data = R.data) (e2 : R'.sub = []) (e3 : R'.out = R.out) : RdI w' b (Gr F w w') R' Ad cd none 0 Ao co xs ∧ NeS none xs := by
  have n1 := h.data.ne h.st ne_rd8
  have n3 := h.out.row.ne h.st ne_rdev
  refine ⟨⟨hs, .inl h.fb, ?_, by rw [e2]; exact Row.none_, ⟨?_, fun x hx => ?_⟩, by rw [e3]; exact h.bare, (fun _ _ h => by cases h), h.ned, by rw [e1]; exact h.bd, by rw [e2]; exact BL.nil, Gr.lt h.lt hk.size⟩, fun _ _ _ _ h => by cases h⟩
  · rw [e1]; exact (h.data.keep hk (fun g hg e => n1 (e ▸ hg))).mono fun g hg => .inl hg
  · exact (h.out.row.keep hk (fun g hg e => n3 (e ▸ hg))).mono fun g hg => .inl hg
  · exact ((h.out.good x hx).keep hk (fun g hg e => (h.out.good x hx).block_ne h.st ne_rd8 (e ▸ hg))).mono fun g hg => .inl hg
theorem RdPost.then {e : Ending} {w1 w2 : World} (hk1 : Keep F w w1) (h : RdPost w1 b (Gr F w w1) R e w2) (hF : ∀ k, F k → k < w.heap.size) : RdPost w b F R e w2 := by
  obtain ⟨he, hr, hk⟩ := h
  exact ⟨he, hr.wide (Gr.trans hk1.size hk.size) (Gr.lt hF (by have := hk1.size; have := hk.size; omega)), hk1.gr hk⟩
end
set_option maxRecDepth 100000 in
set_option maxHeartbeats 6400000 in
theorem end_is {w : World} {b : Nat} {F : Nat → Prop} {R : RdT} (br : Bool) (h : RdAt w b F R) (hn : R.out.length ≤ 200000) :
    Calls Tryz.prog 173 #[.pointer (some ⟨b, 0, none⟩), .bool br] w (RdPost w b F (endT R br)) := by
  obtain ⟨Ad, cd, As, cs, Ao, co, xs, h, hne⟩ := h
  have H := Lib.hid h
  have c2 := h.st.cell 2 (v := .int .u8 R.opt) rfl
  have c4 := h.st.cell 4 (v := .slice As R.sub.length cs) rfl
  have c5 := h.st.cell 5 (v := .bool R.long) rfl
  have zb := h.st.lt
  have HTL := Lib.hid (tell_is ⟨3, 0, R.opt, As, cs, R.sub, R.long, br⟩ (h.up (Up.refl w).drew) hn (.inr ⟨rfl, rfl, rfl⟩))
  clear h hne
  go_enter Tryz.func173, Tryz.ntmps173
  go_wp2_with fail
  go_region_law (go_simp; go_at_call 171; refine HTL.out.mono ?_; rintro e w1 ⟨rfl, ⟨Ao1, co1, h1⟩, hk1⟩; have f4 := h1.st.free 4; have f5 := h1.st.free 5; have d4 := h1.st.cell 4 rfl; have d5 := h1.st.cell 5 rfl; have zb1 := h1.st.lt; have H1 := Lib.hid h1; have HK1 := Lib.hid hk1; clear h1 hk1)
  all_goals
    go_wp2
    go_end0
    have hk : Keep (fun k => k = b) w1 ((w1.setCell ⟨b, 4, none⟩ (.slice none 0 0)).setCell ⟨b, 5, none⟩ (.bool false)) := ((Keep.refl (fun k => k = b) w1).setCell (p := ⟨b, 4, none⟩) (.inl rfl) _).setCell (p := ⟨b, 5, none⟩) (.inl rfl) _
    have h2 := H1.out.dropS (R' := endT R br) hk ((H1.out.st.set 4 (.slice none 0 0)).set 5 (.bool false)) rfl rfl rfl
    exact RdPost.then (w := w) ((Keep.refl F w).drew.trans HK1.out) ⟨rfl, ⟨_, _, _, _, _, _, _, h2⟩, hk.mono (fun k h => by rw [h]; exact H1.out.fb)⟩ H.out.lt
/-- one byte more, into the data: for the callers that have loaded the slice -/
theorem RdI.pushD {w w1 : World} {b : Nat} {F : Nat → Prop} {R : RdT} {Ad As Ao A1 : Option Addr} {cd cs co c1 : Nat} {xs : List EvV} {x : Int} {o : Obj} (h : RdI w b F R Ad cd As cs Ao co xs) (hx : 0 ≤ x ∧ x ≤ 255) (hr : Row 5 1 w1 (fun k => F k ∨ k = (w.alloc o).heap.size) A1 (R.data.length + 1) c1 (bs R.data ++ bs [x])) (hg : (w.alloc o).grownBy w1 (blk Ad)) (hb : blk A1 = blk Ad ∨ blk A1 = some (w.alloc o).heap.size) :
    RdI (w1.setCell ⟨b, 3, none⟩ (.slice A1 (R.data.length + 1) c1)) b (Gr F w (w1.setCell ⟨b, 3, none⟩ (.slice A1 (R.data.length + 1) c1))) { R with data := R.data ++ [x] } A1 c1 As cs Ao co xs ∧ Keep F w (w1.setCell ⟨b, 3, none⟩ (.slice A1 (R.data.length + 1) c1)) := by
  have st1 : St w1 249 b (rdVals R Ad cd As cs Ao co) := (h.st.alloc _).grown hg (h.data.ne h.st ne_rd8)
  have hk : Keep (fun k => k = b ∨ blk Ad = some k) w (w1.setCell ⟨b, 3, none⟩ (.slice A1 (R.data.length + 1) c1)) := ((((Keep.refl (fun k => k = b ∨ blk Ad = some k) w).alloc _).trans (Keep.grown hg (fun g hg => .inr hg))).setCell (p := ⟨b, 3, none⟩) (.inl (.inl rfl)) _)
  refine ⟨h.putD (R' := { R with data := R.data ++ [x] }) hk (by simpa [rdVals] using st1.set 3 (.slice A1 (R.data.length + 1) c1)) ?_ ?_ (h.bd.app (BL.cons hx BL.nil)) rfl rfl, hk.mono (fun k hk => by
    rcases hk with rfl | hk
    · exact h.fb
    · exact h.data.in_ k hk)⟩
  · refine (show Row 5 1 _ _ A1 (R.data ++ [x]).length c1 (bs (R.data ++ [x])) from ?_)
    rw [show (R.data ++ [x]).length = R.data.length + 1 by simp, show bs (R.data ++ [x]) = bs R.data ++ bs [x] by simp [bs]]
    exact (hr.struct st1 ne_rd8 3 _).gr (fun g hg => hg.imp id (fun e => by simp at e; omega))
  · rcases hb with h | h
    · exact .inl h
    · right
      intro g hg
      rw [h] at hg
      simp at hg
      omega
set_option maxRecDepth 100000 in
set_option maxHeartbeats 6400000 in
theorem command_is {w : World} {b : Nat} {F : Nat → Prop} {R : RdT} (x : Int) (hx : 0 ≤ x ∧ x ≤ 255) (h : RdAt w b F R) (hn : R.out.length ≤ 200000) (hm : R.data.length ≤ 200000) :
    Calls Tryz.prog 170 #[.pointer (some ⟨b, 0, none⟩), .int .u8 x] w (RdPost w b F (cmdT R x)) := by
  obtain ⟨i0, hi, hz0, hz1, hz2⟩ := info_parts info_u8
  obtain ⟨Ad, cd, As, cs, Ao, co, xs, h, hne⟩ := h
  have H := Lib.hid h
  have HN := Lib.hid hne
  have c0 := h.st.cell 0 (v := .int .i64 R.st) rfl
  have c1 := h.st.cell 1 (v := .int .u8 R.verb) rfl
  have c3 := h.st.cell 3 (v := .slice Ad R.data.length cd) rfl
  have f0 := h.st.free 0
  have f1 := h.st.free 1
  have f3 := h.st.free 3
  have zb := h.st.lt
  by_cases h1 : x = 255
  · subst h1
    have HT := Lib.hid (show cmdT R 255 = { R with data := R.data ++ [255], st := 0 } by unfold cmdT; rw [if_pos rfl])
    clear h hne
    go_enter Tryz.func170, Tryz.ntmps170
    go_wp2_with (at_builtin; go_must (refine wpList_row rfl 30 rfl 5 i0 _ 1 1 Tryz.underlying30 hi hz0 hz1 hz2 rfl (by decide) rfl (H.out.data.up ((Up.refl _).alloc _)) rfl (reads_at w w.heap.size 1 1 #[.int .u8 255] 5 rfl rfl) (one_bs [255]) (by simp [maxLen]; omega) (by omega) ?_; intro A1 c1 w1 hr1 hg1 hb1; have st1 : St w1 249 b (rdVals R Ad cd As cs Ao co) := (H.out.st.alloc _).grown hg1 (H.out.data.ne H.out.st ne_rd8); have d3 := st1.cell 3 (v := .slice Ad R.data.length cd) rfl; have e3 := st1.free 3; have d0 := st1.cell 0 (v := .int .i64 R.st) rfl; have e0 := st1.free 0; have zb1 := st1.lt; have HR1 := Lib.hid hr1; have HG1 := Lib.hid hg1; have HB1 := Lib.hid hb1; clear st1 hr1 hg1 hb1))
    go_end0
    rw [HT.out]
    obtain ⟨g1, g2⟩ := H.out.pushD (by omega) HR1.out HG1.out HB1.out
    obtain ⟨w2, hw2⟩ : ∃ w2, w1.setCell ⟨b, 3, none⟩ (.slice A1 (R.data.length + 1) c1) = w2 := ⟨_, rfl⟩
    rw [hw2] at g1 g2 ⊢
    have hk : Keep (fun k => k = b) w2 (w2.setCell ⟨b, 0, none⟩ (.int .i64 0)) := (Keep.refl (fun k => k = b) w2).setCell (p := ⟨b, 0, none⟩) (.inl rfl) _
    exact RdPost.then g2 ⟨rfl, ⟨_, _, _, _, _, _, _, g1.touch (R' := { R with data := R.data ++ [255], st := 0 }) hk (g1.st.set 0 (.int .i64 0)) rfl rfl rfl, HN.out⟩, hk.mono (fun k h => by rw [h]; exact g1.fb)⟩ H.out.lt
  · have h1' : (x == 255) = false := by simpa using h1
    by_cases h2 : x = 250
    · subst h2
      have HT := Lib.hid (show cmdT R 250 = { R with st := 3 } by unfold cmdT; rw [if_neg (by decide), if_pos rfl])
      clear h hne h1
      go_enter Tryz.func170, Tryz.ntmps170
      go_wp2
      go_end0
      rw [HT.out]
      have hk : Keep (fun k => k = b) w (w.setCell ⟨b, 0, none⟩ (.int .i64 3)) := (Keep.refl (fun k => k = b) w).setCell (p := ⟨b, 0, none⟩) (.inl rfl) _
      exact ⟨rfl, ⟨Ad, cd, As, cs, Ao, co, xs, H.out.touch hk (H.out.st.set 0 _) rfl rfl rfl, HN.out⟩, hk.mono (fun k h => by rw [h]; exact H.out.fb)⟩
    · have h2' : (x == 250) = false := by simpa using h2
      by_cases h3 : 251 ≤ x ∧ x ≤ 254
      · have HT := Lib.hid (show cmdT R x = { R with verb := x, st := 2 } by unfold cmdT; rw [if_neg h1, if_neg h2, if_pos h3])
        obtain ⟨h3, h4⟩ := h3
        clear h hne h1 h2
        go_enter Tryz.func170, Tryz.ntmps170
        go_wp2
        go_end0
        rw [HT.out]
        have hk : Keep (fun k => k = b) w ((w.setCell ⟨b, 1, none⟩ (.int .u8 x)).setCell ⟨b, 0, none⟩ (.int .i64 2)) := ((Keep.refl (fun k => k = b) w).setCell (p := ⟨b, 1, none⟩) (.inl rfl) _).setCell (p := ⟨b, 0, none⟩) (.inl rfl) _
        exact ⟨rfl, ⟨Ad, cd, As, cs, Ao, co, xs, H.out.touch hk ((H.out.st.set 1 _).set 0 _) rfl rfl rfl, HN.out⟩, hk.mono (fun k h => by rw [h]; exact H.out.fb)⟩
      · have HT := Lib.hid (show cmdT R x = tellT R ⟨1, x, 0, [], false, false⟩ by unfold cmdT; rw [if_neg h1, if_neg h2, if_neg h3])
        have HTL := Lib.hid (tell_is ⟨1, x, 0, none, 0, [], false, false⟩ h hn (.inl ⟨rfl, rfl, rfl⟩))
        have HNF := Lib.hid (NeS.fl h hne (x := ⟨1, x, 0, none, 0, [], false, false⟩) rfl)
        have h34 : x < 251 ∨ 254 < x := by omega
        clear h hne h1 h2 h3
        rcases h34 with h34 | h34
        all_goals
          go_enter Tryz.func170, Tryz.ntmps170
          go_wp2_with (go_at_call 171; refine HTL.out.mono ?_; rintro e w1 ⟨rfl, ⟨Ao1, co1, h1⟩, hk1⟩)
          go_end0
          rw [HT.out]
          exact ⟨rfl, ⟨_, _, _, _, _, _, _, h1, HNF.out⟩, hk1⟩
end Go.Proofs.YtamfjgioajmnpaaGreatDoor
