/-
A line's reader as it lies in memory; flush, tell, keep, end and command over it. Conditions: how it lies, that what it holds is short.
-/
import Derived.Test.YtamfjgioajmnpaaGreatDoorJa2
import Derived.Test.YtamfjgioajmnpaaGreatDoorJa25
import Derived.Deep.DeepMust
import Derived.Deep.RegionLaw
namespace Go.Proofs.YtamfjgioajmnpaaGreatDoor
open Go.RowKit
set_option linter.unusedVariables false
set_option linter.unusedSimpArgs false

/-- an event as it lies -/
structure EvV where
  kind : Int
  verb : Int
  opt : Int
  A : Option Addr
  c : Nat
  data : List Int
  long : Bool
  broken : Bool
def EvV.bare (x : EvV) : EvT := ⟨x.kind, x.verb, x.opt, x.data, x.long, x.broken⟩
def EvV.cells (x : EvV) : List Value := [.int .i64 x.kind, .int .u8 x.verb, .int .u8 x.opt, .slice x.A x.data.length x.c, .bool x.long, .bool x.broken]
theorem EvV.one (x : EvV) : ∀ u ∈ x.cells, u.oneCell' = true := by
  intro u hu
  simp only [EvV.cells, List.mem_cons, List.mem_nil_iff, or_false] at hu
  rcases hu with rfl | rfl | rfl | rfl | rfl | rfl <;> rfl
/-- events in a row of their own, their data in blocks of F -/
structure EvL (w : World) (F : Nat → Prop) (A : Option Addr) (c : Nat) (xs : List EvV) : Prop where
  row : Row 165 6 w F A xs.length c (xs.flatMap EvV.cells)
  good : ∀ x ∈ xs, Bt w F x.A x.data.length x.c x.data
section
variable {F G : Nat → Prop} {w w' : World} {A : Option Addr} {c : Nat} {xs : List EvV}
theorem EvL.nil : EvL w F none 0 [] := ⟨Row.none_, fun _ h => by cases h⟩
theorem EvL.up (h : EvL w F A c xs) (hu : Up w w') : EvL w' F A c xs := ⟨h.row.up hu, fun x hx => (h.good x hx).up hu⟩
theorem EvL.mono (h : EvL w F A c xs) (hF : ∀ g, F g → G g) : EvL w G A c xs := ⟨h.row.mono hF, fun x hx => (h.good x hx).mono hF⟩
theorem EvL.keep {E : Nat → Prop} (h : EvL w F A c xs) (hk : Keep E w w') (he : ∀ g, F g → ¬ E g) : EvL w' F A c xs :=
  ⟨h.row.keep hk (fun g hg => he g (h.row.in_ g hg)), fun x hx => (h.good x hx).keep hk (fun g hg => he g ((h.good x hx).in_ g hg))⟩
end
theorem ne_ev8 : 165 ≠ 5 := by decide
theorem ne_rd8 : 249 ≠ 5 := by decide
theorem ne_rdev : 249 ≠ 165 := by decide
theorem info_ev : (Tryz.prog.info? 165).map (fun i => (i.zero, i.size, i.bytes)) = some (some (.agg #[.int .i64 0, .int .u8 0, .int .u8 0, .slice none 0 0, .bool false, .bool false]), 6, 48) := by kernel_rfl
/-- what a reader's cells are -/
def rdVals (R : RdT) (Ad : Option Addr) (cd : Nat) (As : Option Addr) (cs : Nat) (Ao : Option Addr) (co : Nat) : List Value :=
  [.int .i64 R.st, .int .u8 R.verb, .int .u8 R.opt, .slice Ad R.data.length cd, .slice As R.sub.length cs, .bool R.long, .slice Ao R.out.length co]
structure RdI (w : World) (b : Nat) (F : Nat → Prop) (R : RdT) (Ad : Option Addr) (cd : Nat) (As : Option Addr) (cs : Nat) (Ao : Option Addr) (co : Nat) (xs : List EvV) : Prop where
  st : St w 249 b (rdVals R Ad cd As cs Ao co)
  fb : F b
  data : Row 5 1 w F Ad R.data.length cd (bs R.data)
  sub : Row 5 1 w F As R.sub.length cs (bs R.sub)
  out : EvL w F Ao co xs
  bare : xs.map EvV.bare = R.out
  ne : ∀ g, blk Ad = some g → blk As ≠ some g
  ned : ∀ x ∈ xs, ∀ g, blk x.A = some g → blk Ad ≠ some g
  bd : BL R.data
  bsu : BL R.sub
  lt : ∀ k, F k → k < w.heap.size
/-- no event's data lie where the subnegotiation's do -/
def NeS (As : Option Addr) (xs : List EvV) : Prop := ∀ x ∈ xs, ∀ g, blk x.A = some g → blk As ≠ some g
/-- a reader lies there, its blocks in F -/
def RdAt (w : World) (b : Nat) (F : Nat → Prop) (R : RdT) : Prop := ∃ Ad cd As cs Ao co xs, RdI w b F R Ad cd As cs Ao co xs ∧ NeS As xs
/-- what a step of a reader leaves -/
def RdPost (w : World) (b : Nat) (F : Nat → Prop) (R : RdT) (e : Ending) (w' : World) : Prop := e = .returned (.tuple #[]) ∧ RdAt w' b (Gr F w w') R ∧ Keep F w w'
section
variable {w w' : World} {b : Nat} {F : Nat → Prop} {R R' : RdT} {Ad As Ao Ad' As' Ao' : Option Addr} {cd cs co cd' cs' co' : Nat} {xs : List EvV}
theorem RdI.olen (h : RdI w b F R Ad cd As cs Ao co xs) : xs.length = R.out.length := by
  rw [← h.bare, List.length_map]
theorem Bt.block_ne {A : Option Addr} {n c : Nat} {l : List Int} {T : TypeId} {vs : List Value} (h : Bt w F A n c l) (hs : St w T b vs) (hT : T ≠ 5) : blk A ≠ some b := fun hb => by
  obtain ⟨cur, q, h1⟩ := h.tag _ hb
  rw [show w.heap[b]? = _ from hs] at h1
  injection h1 with h1
  injection h1 with _ h1 _
  exact hT h1
theorem Bt.row_ne {A A' : Option Addr} {n c n' c' k : Nat} {e : TypeId} {l : List Int} {ys : List Value} {G : Nat → Prop} (h : Bt w F A n c l) (hr : Row e k w G A' n' c' ys) (he : e ≠ 5) : ∀ g, blk A = some g → blk A' ≠ some g := fun g h1 h2 => by
  obtain ⟨cur, q, h3⟩ := h.tag g h1
  obtain ⟨cur', q', h4⟩ := hr.tag h2
  rw [h3] at h4
  injection h4 with h4
  injection h4 with _ h4 _
  exact he h4.symm
/-- a store into the reader's own cells alone -/
theorem RdI.touch (h : RdI w b F R Ad cd As cs Ao co xs) (hk : Keep (fun k => k = b) w w') (hs : St w' 249 b (rdVals R' Ad cd As cs Ao co)) (e1 : R'.data = R.data) (e2 : R'.sub = R.sub) (e3 : R'.out = R.out) : RdI w' b (Gr F w w') R' Ad cd As cs Ao co xs := by
  have n1 := h.data.ne h.st ne_rd8
  have n2 := h.sub.ne h.st ne_rd8
  have n3 := h.out.row.ne h.st ne_rdev
  refine ⟨hs, .inl h.fb, ?_, ?_, ⟨?_, fun x hx => ?_⟩, by rw [e3]; exact h.bare, h.ne, h.ned, by rw [e1]; exact h.bd, by rw [e2]; exact h.bsu, Gr.lt h.lt hk.size⟩
  · rw [e1]; exact (h.data.keep hk (fun g hg e => n1 (e ▸ hg))).mono fun g hg => .inl hg
  · rw [e2]; exact (h.sub.keep hk (fun g hg e => n2 (e ▸ hg))).mono fun g hg => .inl hg
  · exact (h.out.row.keep hk (fun g hg e => n3 (e ▸ hg))).mono fun g hg => .inl hg
  · exact ((h.out.good x hx).keep hk (fun g hg e => (h.out.good x hx).block_ne h.st ne_rd8 (e ▸ hg))).mono fun g hg => .inl hg
/-- the data are others -/
theorem RdI.putD (h : RdI w b F R Ad cd As cs Ao co xs) (hk : Keep (fun k => k = b ∨ blk Ad = some k) w w') (hs : St w' 249 b (rdVals R' Ad' cd' As cs Ao co)) (hd : Row 5 1 w' (Gr F w w') Ad' R'.data.length cd' (bs R'.data)) (hb : blk Ad' = blk Ad ∨ ∀ g, blk Ad' = some g → w.heap.size ≤ g) (hl : BL R'.data) (e2 : R'.sub = R.sub) (e3 : R'.out = R.out) : RdI w' b (Gr F w w') R' Ad' cd' As cs Ao co xs := by
  have n2 := h.sub.ne h.st ne_rd8
  have n3 := h.out.row.ne h.st ne_rdev
  have fresh : ∀ g g' : Nat, blk Ad' = some g → (∀ g, blk Ad = some g → g ≠ g') → g' < w.heap.size → g ≠ g' := fun g g' h1 h2 h3 e => by
    rcases hb with hb | hb
    · exact h2 g (hb ▸ h1) e
    · have := hb g h1; omega
  refine ⟨hs, .inl h.fb, hd, ?_, ⟨?_, fun x hx => ?_⟩, by rw [e3]; exact h.bare, fun g hg hg2 => ?_, fun x hx g hg hg2 => ?_, hl, by rw [e2]; exact h.bsu, Gr.lt h.lt hk.size⟩
  · rw [e2]
    exact (h.sub.keep hk (fun g hg e => by
      rcases e with e | e
      · exact n2 (e ▸ hg)
      · exact h.ne g e hg)).mono fun g hg => .inl hg
  · exact (h.out.row.keep hk (fun g hg e => by
      rcases e with e | e
      · exact n3 (e ▸ hg)
      · exact h.data.apart h.out.row ne_ev8.symm g e hg)).mono fun g hg => .inl hg
  · exact ((h.out.good x hx).keep hk (fun g hg e => by
      rcases e with e | e
      · exact (h.out.good x hx).block_ne h.st ne_rd8 (e ▸ hg)
      · exact h.ned x hx g hg e)).mono fun g hg => .inl hg
  · exact fresh g g hg (fun g' hg' e => h.ne g' hg' (e ▸ hg2)) (h.sub.lt hg2) rfl
  · exact fresh g g hg2 (fun g' hg' e => h.ned x hx g hg (e ▸ hg')) ((h.out.good x hx).lt hg) rfl
/-- the subnegotiation is another -/
theorem RdI.putS (h : RdI w b F R Ad cd As cs Ao co xs) (hn : NeS As xs) (hk : Keep (fun k => k = b ∨ blk As = some k) w w') (hs : St w' 249 b (rdVals R' Ad cd As' cs' Ao co)) (hd : Row 5 1 w' (Gr F w w') As' R'.sub.length cs' (bs R'.sub)) (hb : blk As' = blk As ∨ ∀ g, blk As' = some g → w.heap.size ≤ g) (hl : BL R'.sub) (e2 : R'.data = R.data) (e3 : R'.out = R.out) : RdI w' b (Gr F w w') R' Ad cd As' cs' Ao co xs ∧ NeS As' xs := by
  have n2 := h.data.ne h.st ne_rd8
  have n3 := h.out.row.ne h.st ne_rdev
  have fresh : ∀ g g' : Nat, blk As' = some g → (∀ g, blk As = some g → g ≠ g') → g' < w.heap.size → g ≠ g' := fun g g' h1 h2 h3 e => by
    rcases hb with hb | hb
    · exact h2 g (hb ▸ h1) e
    · have := hb g h1; omega
  refine ⟨⟨hs, .inl h.fb, ?_, hd, ⟨?_, fun x hx => ?_⟩, by rw [e3]; exact h.bare, fun g hg hg2 => ?_, h.ned, by rw [e2]; exact h.bd, hl, Gr.lt h.lt hk.size⟩, fun x hx g hg hg2 => ?_⟩
  · rw [e2]
    exact (h.data.keep hk (fun g hg e => by
      rcases e with e | e
      · exact n2 (e ▸ hg)
      · exact h.ne g hg e)).mono fun g hg => .inl hg
  · exact (h.out.row.keep hk (fun g hg e => by
      rcases e with e | e
      · exact n3 (e ▸ hg)
      · exact h.sub.apart h.out.row ne_ev8.symm g e hg)).mono fun g hg => .inl hg
  · exact ((h.out.good x hx).keep hk (fun g hg e => by
      rcases e with e | e
      · exact (h.out.good x hx).block_ne h.st ne_rd8 (e ▸ hg)
      · exact hn x hx g hg e)).mono fun g hg => .inl hg
  · exact fresh g g hg2 (fun g' hg' e => h.ne g hg (e ▸ hg')) (h.data.lt hg) rfl
  · exact fresh g g hg2 (fun g' hg' e => hn x hx g hg (e ▸ hg')) ((h.out.good x hx).lt hg) rfl
end
set_option maxRecDepth 100000 in
set_option maxHeartbeats 3200000 in
theorem keep_is {w : World} {b : Nat} {F : Nat → Prop} {R : RdT} {x : Int} (h : RdAt w b F R) (hx : 0 ≤ x ∧ x ≤ 255) (hn : R.sub.length ≤ 65536) :
    Calls Tryz.prog 172 #[.pointer (some ⟨b, 0, none⟩), .int .u8 x] w (RdPost w b F (keepT R x)) := by
  obtain ⟨i0, hi, hz0, hz1, hz2⟩ := info_parts info_u8
  obtain ⟨Ad, cd, As, cs, Ao, co, xs, h, hne⟩ := h
  have H := Lib.hid h
  have HN := Lib.hid hne
  have c0 := h.st.cell 0 (v := .int .i64 R.st) rfl
  have c4 := h.st.cell 4 (v := .slice As R.sub.length cs) rfl
  have c5 := h.st.cell 5 (v := .bool R.long) rfl
  have f0 := h.st.free 0
  have f4 := h.st.free 4
  have f5 := h.st.free 5
  have zb := h.st.lt
  clear h hne
  by_cases hl : (256 : Int) ≤ (R.sub.length : Int)
  · have HT := Lib.hid (show keepT R x = { R with st := 4, long := true } by unfold keepT; rw [if_pos (by omega)])
    go_enter Tryz.func172, Tryz.ntmps172
    go_wp2
    go_end0
    rw [HT.out]
    exact ⟨rfl, ⟨Ad, cd, As, cs, Ao, co, xs, H.out.touch (((Keep.refl (fun k => k = b) w).setCell (p := ⟨b, 0, none⟩) (.inl rfl) _).setCell (p := ⟨b, 5, none⟩) (.inl rfl) _) ((H.out.st.set 0 _).set 5 _) rfl rfl rfl, HN.out⟩, ((Keep.refl F w).setCell (p := ⟨b, 0, none⟩) (.inl H.out.fb) _).setCell (p := ⟨b, 5, none⟩) (.inl H.out.fb) _⟩
  · have HT := Lib.hid (show keepT R x = { R with st := 4, sub := R.sub ++ [x] } by unfold keepT; rw [if_neg (by omega)])
    go_enter Tryz.func172, Tryz.ntmps172
    go_wp2_with (at_builtin; go_must (refine wpList_row rfl 30 rfl 5 i0 _ 1 1 Tryz.underlying30 hi hz0 hz1 hz2 rfl (by decide) rfl ((H.out.sub.struct H.out.st ne_rd8 0 _).up ((Up.refl _).alloc _)) rfl (reads_at (w.setCell ⟨b, 0, none⟩ (.int .i64 4)) w.heap.size 1 1 #[.int .u8 x] 5 rfl (by simp [World.setCell])) (one_bs [x]) (by simp [maxLen]; omega) (by omega) ?_; intro A1 c1 w1 hr1 hg1 hb1; have st1 : St w1 249 b (rdVals { R with st := 4 } Ad cd As cs Ao co) := ((H.out.st.set 0 (.int .i64 4)).alloc _).grown hg1 (H.out.sub.ne H.out.st ne_rd8); have d4 := st1.cell 4 (v := .slice As R.sub.length cs) rfl; have e4 := st1.free 4; have zb1 := st1.lt; have ST1 := Lib.hid st1; have HR1 := Lib.hid hr1; have HG1 := Lib.hid hg1; have HB1 := Lib.hid hb1; clear st1 hr1 hg1 hb1))
    go_end0
    rw [HT.out]
    have hk : Keep (fun k => k = b ∨ blk As = some k) w (w1.setCell ⟨b, 4, none⟩ (.slice A1 (R.sub.length + 1) c1)) := (((((Keep.refl (fun k => k = b ∨ blk As = some k) w).setCell (p := ⟨b, 0, none⟩) (.inl (.inl rfl)) (.int .i64 4)).alloc _).trans (Keep.grown HG1.out (fun g hg => .inr hg))).setCell (p := ⟨b, 4, none⟩) (.inl (.inl rfl)) _)
    have hp := H.out.putS (R' := { R with st := 4, sub := R.sub ++ [x] }) HN.out hk (by simpa [rdVals] using ST1.out.set 4 (.slice A1 (R.sub.length + 1) c1)) (As' := A1) (cs' := c1) (by
      have hr := HR1.out.struct ST1.out ne_rd8 4 (.slice A1 (R.sub.length + 1) c1)
      refine (show Row 5 1 _ _ A1 (R.sub ++ [x]).length c1 (bs (R.sub ++ [x])) from ?_)
      rw [show (R.sub ++ [x]).length = R.sub.length + 1 by simp, show bs (R.sub ++ [x]) = bs R.sub ++ bs [x] by simp [bs]]
      exact hr.gr (fun g hg => hg.imp id (fun e => by simp [World.setCell] at e; omega))) ?_ (H.out.bsu.app (BL.cons hx BL.nil)) rfl rfl
    · exact ⟨rfl, ⟨Ad, cd, A1, c1, Ao, co, xs, hp⟩, hk.mono (fun k hk => by
        rcases hk with rfl | hk
        · exact H.out.fb
        · exact H.out.sub.in_ k hk)⟩
    · rcases HB1.out with h | h
      · exact .inl h
      · right
        intro g hg
        rw [h] at hg
        simp [World.setCell] at hg
        omega
/-- the events behind a flush -/
def flX (R : RdT) (Ad : Option Addr) (cd : Nat) (xs : List EvV) : List EvV := if R.data = [] then xs else xs ++ [⟨0, 0, 0, Ad, cd, R.data, false, false⟩]
/-- what flush and tell leave -/
def FlPost (w : World) (b : Nat) (F : Nat → Prop) (R : RdT) (As : Option Addr) (cs : Nat) (xs : List EvV) (e : Ending) (w' : World) : Prop :=
  e = .returned (.tuple #[]) ∧ (∃ Ao co, RdI w' b (Gr F w w') R none 0 As cs Ao co xs) ∧ Keep F w w'
section
variable {w w' : World} {b : Nat} {F : Nat → Prop} {R R' : RdT} {Ad As Ao Ad' As' Ao' : Option Addr} {cd cs co cd' cs' co' : Nat} {xs xs' : List EvV}
/-- the events are others, the data none -/
theorem RdI.putO (h : RdI w b F R Ad cd As cs Ao co xs) (hk : Keep (fun k => k = b ∨ blk Ao = some k) w w') (hs : St w' 249 b (rdVals R' none 0 As cs Ao' co')) (ho : Row 165 6 w' (Gr F w w') Ao' xs'.length co' (xs'.flatMap EvV.cells)) (hb : xs'.map EvV.bare = R'.out)
    (hx : ∀ x ∈ xs', x ∈ xs ∨ Bt w F x.A x.data.length x.c x.data) (e1 : R'.data = []) (e2 : R'.sub = R.sub) : RdI w' b (Gr F w w') R' none 0 As cs Ao' co' xs' := by
  have n2 := h.sub.ne h.st ne_rd8
  refine ⟨hs, .inl h.fb, by rw [e1]; exact Row.none_, ?_, ⟨ho, fun x hxx => ?_⟩, hb, (fun g hg => by cases hg), (fun x hx g hg hg2 => by cases hg2), by rw [e1]; exact BL.nil, by rw [e2]; exact h.bsu, Gr.lt h.lt hk.size⟩
  · rw [e2]
    exact (h.sub.keep hk (fun g hg e => by
      rcases e with e | e
      · exact n2 (e ▸ hg)
      · exact h.sub.apart h.out.row ne_ev8.symm g hg e)).mono fun g hg => .inl hg
  · have hg : Bt w F x.A x.data.length x.c x.data := by
      rcases hx x hxx with h1 | h1
      · exact h.out.good x h1
      · exact h1
    exact (hg.keep hk (fun g hgg e => by
      rcases e with e | e
      · exact hg.block_ne h.st ne_rd8 (e ▸ hgg)
      · exact hg.row_ne h.out.row ne_ev8 g hgg e)).mono fun g hg => .inl hg
end
set_option maxRecDepth 100000 in
set_option maxHeartbeats 3200000 in
theorem flush_is {w : World} {b : Nat} {F : Nat → Prop} {R : RdT} {Ad As Ao : Option Addr} {cd cs co : Nat} {xs : List EvV} (h : RdI w b F R Ad cd As cs Ao co xs) (hn : R.out.length ≤ 200000) :
    Calls Tryz.prog 137 #[.pointer (some ⟨b, 0, none⟩)] w (FlPost w b F (flushT R) As cs (flX R Ad cd xs)) := by
  obtain ⟨i0, hi, hz0, hz1, hz2⟩ := info_parts info_ev
  have H := Lib.hid h
  have c3 := h.st.cell 3 (v := .slice Ad R.data.length cd) rfl
  have c6 := h.st.cell 6 (v := .slice Ao R.out.length co) rfl
  have f3 := h.st.free 3
  have f6 := h.st.free 6
  have zb := h.st.lt
  have HR := Lib.hid (show Row 165 6 w F Ao R.out.length co (xs.flatMap EvV.cells) from h.olen ▸ h.out.row)
  clear h
  by_cases hl : (0 : Int) < (R.data.length : Int)
  · have hd : R.data ≠ [] := fun e => by rw [e] at hl; simp at hl
    have HT := Lib.hid (show flushT R = { R with out := R.out ++ [⟨0, 0, 0, R.data, false, false⟩], data := [] } by unfold flushT; rw [if_neg hd])
    have HX := Lib.hid (show flX R Ad cd xs = xs ++ [⟨0, 0, 0, Ad, cd, R.data, false, false⟩] by unfold flX; rw [if_neg hd])
    have hq1 : R.out.length + 1 ≤ maxLen := by simp [maxLen]; omega
    have hq2 : (R.out.length + 1) * 48 ≤ 140737488355328 := by omega
    clear hd
    go_enter Tryz.func137, Tryz.ntmps137
    go_wp2_with fail
    go_region_law (refine step_row (cx := 1) rfl 162 rfl 165 i0 _ 6 48 Tryz.underlying162 hi hz0 hz1 hz2 rfl (by decide) (by simp [Act.eval, Act.put]) (HR.out.up (by (repeat (first | with_reducible exact Up.refl _ | with_reducible refine Up.alloc ?_ _ | with_reducible refine Up.drew ?_ | with_reducible refine Up.drewN ?_ _ | with_reducible refine Up.setCell ?_ (by (try simp) <;> omega) _ | with_reducible assumption | with_reducible refine Up.trans ?_ (by assumption))))) (by simp [Act.eval, Act.put]) (reads_at w w.heap.size 6 1 (EvV.cells ⟨0, 0, 0, Ad, cd, R.data, false, false⟩).toArray 165 rfl rfl).drew (EvV.one _) hq1 hq2 ?_; intro A1 c1 w1 hr1 hg1 hb1; have st1 : St w1 249 b (rdVals R Ad cd As cs Ao co) := (H.out.st.alloc _).drew.grown hg1 (H.out.out.row.ne H.out.st ne_rdev); have d6 := st1.cell 6 (v := .slice Ao R.out.length co) rfl; have e6 := st1.free 6; have d3 := st1.cell 3 (v := .slice Ad R.data.length cd) rfl; have e3 := st1.free 3; have zb1 := st1.lt; have ST1 := Lib.hid st1; have HR1 := Lib.hid hr1; have HG1 := Lib.hid hg1; have HB1 := Lib.hid hb1; clear st1 hr1 hg1 hb1)
    all_goals
      go_wp2
      go_end0
      rw [HT.out, HX.out]
      have hk : Keep (fun k => k = b ∨ blk Ao = some k) w ((w1.setCell ⟨b, 6, none⟩ (.slice A1 (R.out.length + 1) c1)).setCell ⟨b, 3, none⟩ (.slice none 0 0)) := ((((Keep.refl (fun k => k = b ∨ blk Ao = some k) w).alloc _).drew.trans (Keep.grown HG1.out (fun g hg => .inr hg))).setCell (p := ⟨b, 6, none⟩) (.inl (.inl rfl)) _).setCell (p := ⟨b, 3, none⟩) (.inl (.inl rfl)) _
      refine ⟨rfl, ⟨A1, c1, H.out.putO hk (by simpa [rdVals] using (ST1.out.set 6 (.slice A1 (R.out.length + 1) c1)).set 3 (.slice none 0 0)) ?_ (by simp [H.out.bare, EvV.bare]) (fun x hx => ?_) rfl rfl⟩, hk.mono (fun k hk => by
        rcases hk with rfl | hk
        · exact H.out.fb
        · exact H.out.out.row.in_ k hk)⟩
      · have hr := (HR1.out.struct ST1.out ne_rdev 6 (.slice A1 (R.out.length + 1) c1)).struct (ST1.out.set 6 _) ne_rdev 3 (.slice none 0 0)
        rw [show (xs ++ [(⟨0, 0, 0, Ad, cd, R.data, false, false⟩ : EvV)]).length = R.out.length + 1 by simp [H.out.olen], List.flatMap_append, List.flatMap_singleton]
        exact hr.gr (fun g hg => hg.imp id (fun e => by simp at e; omega))
      · rcases List.mem_append.1 hx with hx | hx
        · exact .inl hx
        · rw [List.mem_singleton.1 hx]
          exact .inr (Bt.of_row H.out.data H.out.bd)
  · have hd : R.data = [] := List.eq_nil_of_length_eq_zero (by omega)
    have HT := Lib.hid (show flushT R = { R with data := [] } by unfold flushT; rw [if_pos hd])
    have HX := Lib.hid (show flX R Ad cd xs = xs by unfold flX; rw [if_pos hd])
    clear hd
    go_enter Tryz.func137, Tryz.ntmps137
    go_wp2
    go_end0
    rw [HT.out, HX.out]
    have hk : Keep (fun k => k = b) w (w.setCell ⟨b, 3, none⟩ (.slice none 0 0)) := (Keep.refl (fun k => k = b) w).setCell (p := ⟨b, 3, none⟩) (.inl rfl) _
    refine ⟨rfl, ⟨Ao, co, H.out.putO (hk.mono (fun k hk => .inl hk)) (by simpa [rdVals] using H.out.st.set 3 (.slice none 0 0)) ?_ H.out.bare (fun x hx => .inl hx) rfl rfl⟩, hk.mono (fun k hk => by rw [hk]; exact H.out.fb)⟩
    exact (H.out.out.row.struct H.out.st ne_rdev 3 _).mono (fun g hg => .inl hg)
end Go.Proofs.YtamfjgioajmnpaaGreatDoor
