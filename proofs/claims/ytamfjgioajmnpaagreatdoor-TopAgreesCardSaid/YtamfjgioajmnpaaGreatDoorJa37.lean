/-
What read.modified sends of a screen that has fields. Conditions: that the screen is small and holds no graphic character.
-/
import Derived.Test.YtamfjgioajmnpaaGreatDoorJa34
import Derived.Test.YtamfjgioajmnpaaGreatDoorJa35
import Derived.Test.YtamfjgioajmnpaaGreatDoorJa36
import Derived.Test.YtamfjgioajmnpaaGreatDoorJa18
import Derived.RangeFuncCalls
namespace Go.Proofs.YtamfjgioajmnpaaGreatDoor
open Go.RowKit Go.Shelf
set_option linter.unusedVariables false
set_option linter.unusedSimpArgs false
attribute [local go_sem] Oper.semAt_some

theorem BoxAt.past {N : Nat → Prop} {W W' : World} {b : Nat} {v : Value} {E : Nat → Prop} (h : BoxAt N W b v) (hk : Keep E W W') (he : ¬ E b) : BoxAt N W' b v :=
  ⟨((hk.at_ b h.lt he).1 0).trans h.c, ((hk.at_ b h.lt he).2 0).trans h.f, h.n⟩
theorem uponIn_row {F0 : Fence} {nn : Nat} {P : Program} {o : Oper} {a : Act} {K : Act → World → Prop} {Q : Exit → Act → World → Prop} {w : World} (t ty e : TypeId) (i : TypeInfo) (z : Value) (size bytes : Nat) (ht : P.underlying t = some (.slice e)) (hi : P.info? e = some i) (hz : i.zero = some z)
    (hsize : i.size = size) (hby : i.bytes = bytes) (hzs : z.cells.size = size) (hsz : 0 < size)
    {F : Nat → Prop} {A : Option Addr} {n c : Nat} {xs : List Value} (hown : Row e size w F A n c xs)
    {B : Nat} {Ax : Option Addr} {m cx : Nat} {news : List Value} (hr : Reads w B size Ax m news) (h1 : ∀ u ∈ news, u.oneCell' = true)
    (h63 : n + m ≤ maxLen) (hbytes : (n + m) * bytes ≤ 140737488355328)
    (h : ∀ A' c' w', Row e size w' (fun k => F k ∨ k = w.heap.size) A' (n + m) c' (xs ++ news) → w.grownBy w' (blk A) → (blk A' = blk A ∨ blk A' = some w.heap.size) → K (a.put o.dst (.slice A' (n + m) c')) w') :
    Oper.uponIn F0 nn P o a K Q ((Sem.run P (Builtin.append_ #[t, t] ty #[.slice A n c, .slice Ax m cx]) w).andThen fun a w' => Result.ok (Next.value a) w') := by
  obtain ⟨A', c', w', hr', h2, h3, h4⟩ := run_row (P := P) (w := w) t ty e i z size bytes ht hi hz hsize hby hzs hsz hown hr (cx := cx) h1 h63 hbytes
  rw [hr']
  exact h A' c' w' h2 h3 h4
attribute [-go_sem] Builtin.append_
/-- a field's characters as they are sent -/
def txtB (X : Spc) (l : List Int) : List Int := l.flatMap fun n => if (X.at_ n).ch = 0 then [] else [codeB (X.at_ n).ch]
def fldB (X : Spc) (a : Int) : List Int := 17 :: encL 12 ((a + 1) % (X.r * X.c)) ++ txtB X (X.places a)
def modsX (X : Spc) : List Int := (those (isAt X.L) X.L.length).filter (fun k => fM (X.at_ k).fa)
def modB (X : Spc) (aid : Int) : List Int := (aid :: encL 12 X.cur) ++ (modsX X).flatMap (fldB X)
/-- how what is sent stands beside the iterators -/
structure SnJ (w : World) (p g : Nat) (X : Spc) (sb : Nat) (V : Nat → Prop) (N : Nat → Prop) (o : List Int) (W : World) : Prop where
  s : SAt W p g X
  pw : p < w.heap.size ∧ g < w.heap.size
  up : Up w W
  sn : ∃ F, SnA W sb F o Cl.zero 0 ∧ ∀ i, F i → w.heap.size ≤ i ∧ ¬ N i ∧ ¬ V i
  nw : ∀ k, N k → w.heap.size ≤ k
  vb : ∀ k, V k → k < W.heap.size
theorem SnJ.keep {w : World} {p g sb : Nat} {X : Spc} {V N N' : Nat → Prop} {o : List Int} {W W' : World} (h : SnJ w p g X sb V N o W) (hk : Keep N W W') (hn : ∀ k, N' k → N k ∨ (W.heap.size ≤ k ∧ k < W'.heap.size)) : SnJ w p g X sb V N' o W' := by
  obtain ⟨F, h1, h2⟩ := h.sn
  have h3 := h.pw
  refine ⟨h.s.held hk (fun e => by have := h.nw _ e; omega) (fun e => by have := h.nw _ e; omega), h.pw, h.up.keep hk h.nw, ⟨F, h1.keep hk (fun i hi => (h2 i hi).2.1), fun i hi => ⟨(h2 i hi).1, fun e => ?_, (h2 i hi).2.2⟩⟩, fun k hk' => ?_, fun k hk' => by have := h.vb k hk'; have := hk.size; omega⟩
  · rcases hn _ e with e | e
    · exact (h2 i hi).2.1 e
    · have := h1.lt i hi; omega
  · rcases hn _ hk' with e | e
    · exact h.nw k e
    · have := h.up.size; omega
/-- a step of the sender -/
theorem SnJ.step {w : World} {p g sb : Nat} {X : Spc} {V N F : Nat → Prop} {o o' : List Int} {W W' : World} (h : SnJ w p g X sb V N o W) (hN : ∀ k, N k → k < W.heap.size) (hF : ∀ i, F i → w.heap.size ≤ i ∧ ¬ N i ∧ ¬ V i) (h1 : SnA W' sb (Gr F W W') o' Cl.zero 0) (hk : Keep F W W') : SnJ w p g X sb V N o' W' ∧ Held N W W' := by
  have h3 := h.pw
  refine ⟨⟨h.s.held hk (fun e => by have := (hF _ e).1; omega) (fun e => by have := (hF _ e).1; omega), h.pw, h.up.keep hk (fun i hi => (hF i hi).1), ⟨_, h1, fun i hi => ?_⟩, h.nw, fun k hk' => by have := h.vb k hk'; have := hk.size; omega⟩, fun k hk' => hk.block k (hN k hk') (fun e => (hF k e).2.1 hk')⟩
  rcases hi with hi | hi
  · exact hF i hi
  · exact ⟨by have := h.up.size; omega, fun e => by have := hN i e; omega, fun e => by have := h.vb i e; omega⟩
theorem places_valS (v : Option Addr) (n : Int) (w : World) :
    Calls Tryz.prog 211 #[.pointer v, .int .i64 n] w fun e w' => e = .returned (.func (.func 262) #[] #[.pointer (some ⟨w.heap.size, 0, none⟩), .pointer (some ⟨w.heap.size + 1, 0, none⟩)]) ∧ w'.cell? ⟨w.heap.size, 0, none⟩ = some (.pointer v) ∧ w'.cell? ⟨w.heap.size + 1, 0, none⟩ = some (.int .i64 n) ∧ w'.frozen? ⟨w.heap.size, 0, none⟩ = false ∧ w'.frozen? ⟨w.heap.size + 1, 0, none⟩ = false ∧ Up w w' := by
  go_enter Tryz.func211, Tryz.ntmps211
  go_wp2
  go_ret
  exact ⟨by simp, by simp [go_sem], by simp [go_sem], by simp [go_sem], by simp [go_sem], by (repeat (first | with_reducible exact Up.refl _ | with_reducible refine Up.alloc ?_ _ | with_reducible refine Up.drew ?_ | with_reducible refine Up.drewN ?_ _ | with_reducible refine Up.setCell ?_ (by (try simp) <;> omega) _ | with_reducible assumption | with_reducible refine Up.trans ?_ (by assumption)))⟩
theorem txtB_snoc (X : Spc) (l : List Int) (x : Int) : txtB X (l ++ [x]) = txtB X l ++ if (X.at_ x).ch = 0 then [] else [codeB (X.at_ x).ch] := by simp [txtB]
theorem txtB_pre (X : Spc) {l m : List Int} (h : l <+: m) : (txtB X l).length ≤ (txtB X m).length := by
  obtain ⟨t, rfl⟩ := h
  simp [txtB]
set_option maxRecDepth 100000 in
set_option maxHeartbeats 12800000 in
theorem rmod_is {w : World} {p g : Nat} {X : Spc} {aid : Int} (hs : SAt w p g X) (ok : X.Ok) (hfm : 0 < attrsN X.L) (ha : 0 ≤ aid ∧ aid ≤ 255) (hsz : X.r * X.c ≤ 4096) (hgr : ∀ n, ((X.at_ n).se == 241) = false) (hlen : (modB X aid).length ≤ 1000000) :
    Calls Tryz.prog 155 #[.pointer (some ⟨p, 0, none⟩), .int .u8 aid, .int .i64 0, .bool false] w fun e w' => ∃ A c, e = .returned (.tuple #[.slice A (modB X aid).length c, .int .i64 0]) ∧ Bt w' (fun i => w.heap.size ≤ i) A (modB X aid).length c (modB X aid) ∧ Up w w' := by
  have hnot : ∀ (x : Bool) (w : World), (Op.unary .not (.bool x)).run Tryz.prog w = .ok (.bool (!x)) w := fun _ _ => rfl
  have hcur : X.cur ≤ 4095 := by have := ok.cur1; have := ok.len; omega
  have hfm' : decide (0 < attrsN X.L) = true := by simpa using hfm
  have hu0 : Up w (w.alloc (.cells #[.pointer (some ⟨p, 0, none⟩)] 46)) := (Up.refl w).alloc _
  have HBE := Lib.hid (snbegin_is (aid := aid) (m := 0) (hs.up hu0) ok ha (by omega) hcur)
  have HFO := Lib.hid (fun W (h' : SAt W p g X) => sform_is h')
  rw [hfm'] at HFO
  have s4 : St (w.alloc (.cells #[.pointer (some ⟨p, 0, none⟩)] 46)) 46 w.heap.size [.pointer (some ⟨p, 0, none⟩)] := St.new w _ _ rfl
  have H := Lib.hid hs
  have HOK := Lib.hid ok
  have HLEN := Lib.hid hlen
  have HSZ := Lib.hid hsz
  have HGR := Lib.hid hgr
  clear hs ok hfm hfm' hsz hgr hlen hcur
  refine (callsIn_wide (n := 9)).1 ?_
  refine callsIn_of_wp_marks Tryz.func155 rfl trivial ?_ rfl
  simp only [Tryz.ntmps155, List.size_toArray, List.length_cons, List.length_nil, Nat.reduceAdd, Nat.reduceSub, Array.replicate_succ, Array.replicate_zero, List.push_toArray, List.append_toArray, List.nil_append, List.cons_append]
  refine wpIn_wide.2 ?_
  go_wp2_with fail
  refine HBE.out.mono ?_
  rintro e w1 ⟨sb, rfl, hsn, hu1⟩
  have s41 := s4.up hu1
  have HU1 := Lib.hid (hu0.trans hu1)
  have HSN := Lib.hid hsn
  have z1 := hu1.size
  have c4 := s41.cell 0 (v := .pointer (some ⟨p, 0, none⟩)) rfl
  have z4 := s41.lt
  clear hu1 hu0 s4 hsn
  go_wp2_with fail
  have s10 : St (w1.alloc (.cells #[.pointer (some ⟨sb, 0, none⟩)] 317)) 317 w1.heap.size [.pointer (some ⟨sb, 0, none⟩)] := St.new w1 _ _ rfl
  have s42 := s41.up ((Up.refl w1).alloc (.cells #[.pointer (some ⟨sb, 0, none⟩)] 317))
  have hsn2 := HSN.out.up ((Up.refl w1).alloc (.cells #[.pointer (some ⟨sb, 0, none⟩)] 317))
  have hu2 := HU1.out.alloc (.cells #[.pointer (some ⟨sb, 0, none⟩)] 317)
  have hz2 : (w1.alloc (.cells #[.pointer (some ⟨sb, 0, none⟩)] 317)).heap.size = w1.heap.size + 1 := by simp
  have hza : (w.alloc (.cells #[.pointer (some ⟨p, 0, none⟩)] 46)).heap.size = w.heap.size + 1 := by simp
  generalize (w1.alloc (.cells #[.pointer (some ⟨sb, 0, none⟩)] 317)) = w2 at *
  refine (HFO.out _ (H.out.up hu2)).mono ?_
  rintro e w2' ⟨rfl, rfl⟩
  have d4 := s42.cell 0 (v := .pointer (some ⟨p, 0, none⟩)) rfl
  have zd4 := s42.lt
  go_wp2_with fail
  refine (modified_val13 _ _).mono ?_
  rintro e w3 ⟨b, rfl, hb, hbz, hcb, hfb, hu3⟩
  have B4 : BoxAt (fun _ => False) w3 w.heap.size (.pointer (some ⟨p, 0, none⟩)) := ⟨(s42.up hu3).cell 0 rfl, (s42.up hu3).free 0, fun h => h⟩
  have B10 : BoxAt (fun _ => False) w3 w1.heap.size (.pointer (some ⟨sb, 0, none⟩)) := ⟨(s10.up hu3).cell 0 rfl, (s10.up hu3).free 0, fun h => h⟩
  have BB : BoxAt (fun _ => False) w3 b (.pointer (some ⟨p, 0, none⟩)) := ⟨hcb, hfb, fun h => h⟩
  have zp := H.out.lt
  have zg := H.out.cells.2.1
  have z3 := hu3.size
  have HJ0 := Lib.hid (show SnJ w p g X sb (fun k => k = w.heap.size ∨ k = w1.heap.size ∨ k = b) (fun _ => False) ((aid :: encL 12 X.cur) ++ ([] : List Int).flatMap (fldB X)) w3 from ⟨(H.out.up hu2).up hu3, ⟨zp, zg⟩, hu2.trans hu3, ⟨_, by simpa using hsn2.up hu3, fun i hi => ⟨by omega, fun h => h, fun e => by omega⟩⟩, fun k hk => hk.elim, fun k hk => by omega⟩)
  have HBB := Lib.hid (And.intro B4 (And.intro B10 BB))
  clear s10 s42 hsn2 hu2 hu3 hcb hfb B4 B10 BB c4 d4 z4 zd4
  go_wp2_with fail
  refine (wpIn_wide (n := 9)).1 ?_
  refine range_n (n := 9) (gf := 260) (lb := #[.pointer (some ⟨b, 0, none⟩)]) ?hg enters_modified13 (encs := fun x : Int => #[.int .i64 x]) (modified_it (p := p) (m := X.L.length) (b := b) (f := isAt X.L) (hx := fun k => fM (X.at_ k).fa) (Q := fun Y => Y = X) ?hQ) (fun _ => rfl)
    (fun _ => False) (fun k hk => hk.elim) (fun k hk => hk.elim) (fun _ _ => trivial)
    (fun N pre W => SnJ w p g X sb (fun k => k = w.heap.size ∨ k = w1.heap.size ∨ k = b) N ((aid :: encL 12 X.cur) ++ pre.flatMap (fldB X)) W ∧ BoxAt N W w.heap.size (.pointer (some ⟨p, 0, none⟩)) ∧ BoxAt N W w1.heap.size (.pointer (some ⟨sb, 0, none⟩)) ∧ BoxAt N W b (.pointer (some ⟨p, 0, none⟩)))
    (fun _ _ _ _ => False) ?own (fun _ _ _ _ _ _ h _ _ => h) ?see ⟨HJ0.out, HBB.out⟩
    (fun pre x a' N W' => pre ++ [x] <+: modsX X ∧ a' = { tmps := #[.pointer (some ⟨p, 0, none⟩), .int .u8 aid, .int .i64 0, .bool false, .pointer (some ⟨w.heap.size, 0, none⟩), undef, undef, undef, .slice none 0 0, .int .i64 0, .pointer (some ⟨w1.heap.size, 0, none⟩), .int .i64 0, undef, undef, .int .i64 x, undef, .tuple #[.pointer (some ⟨sb, 0, none⟩), .int .i64 0], .pointer (some ⟨p, 0, none⟩), .int .u8 aid, .int .i64 0, .bool false, .tuple #[.pointer (some ⟨sb, 0, none⟩), .int .i64 0], .pointer (some ⟨sb, 0, none⟩), .int .i64 0, .int .i64 0, .bool false, .bool false, .bool false, .bool false, undef, undef, undef, .pointer (some ⟨p, 0, none⟩), .bool true, .bool false, undef, undef, undef, undef, undef, undef, undef, undef, undef, undef, undef, .pointer (some ⟨p, 0, none⟩), .func (.func 260) #[] #[.pointer (some ⟨b, 0, none⟩)], .int .i64 x, undef, undef, undef, undef, undef, undef, undef, undef, undef, undef, undef, undef, undef, undef, undef, undef, undef, undef, undef, undef, undef, undef, undef, undef, undef, undef, undef, undef, undef], defers := [] })
    (fun _ _ _ _ _ _ _ _ h _ _ => h) ?assign ?body ?done (fun _ _ _ _ _ _ _ _ _ h _ => h.elim)
  case hg => rfl
  case hQ => 
    rintro Y rfl
    exact ⟨fun k hk => rfl, fun k hk => rfl⟩
  case own =>
    rintro N N' pre A A' ⟨h1, h2, h3, h4⟩ hk hn
    exact ⟨h1.keep hk hn, h2.keep hk hn, h3.keep hk hn, h4.keep hk hn⟩
  case see =>
    rintro N pre A ⟨h1, h2, h3, h4⟩
    exact ⟨g, X, h1.s, HOK.out, rfl, rfl, h4.c⟩
  case assign =>
    rintro ll N pre x A K hz hI hG hK
    have HI := Lib.hid hI
    have HG := Lib.hid hG
    clear hI hG
    gi_wp2
    exact hK _ _ (Held.refl _ _) HI.out ⟨HG.out, rfl⟩
  case body =>
    rintro ll N pre x a' A hl hr hz ⟨h1, h4, h10, hb_⟩ ⟨hG, rfl⟩
    have HJ := Lib.hid h1
    obtain ⟨F, ⟨As, cs, hI⟩, hF⟩ := h1.sn
    obtain ⟨o, ho⟩ : ∃ o, (aid :: encL 12 X.cur) ++ pre.flatMap (fldB X) = o := ⟨_, rfl⟩
    rw [ho] at HJ hI
    have hmem : x ∈ modsX X := hG.subset (by simp)
    obtain ⟨kx, rfl, hkx, -⟩ := mem_those.1 (List.mem_filter.1 hmem).1
    have hpos := Spc.pos HOK.out
    have hxl := HOK.out.len
    have hsz := HSZ.out
    have hob : o.length + (fldB X (kx : Int)).length ≤ 1000000 := by
      obtain ⟨t, ht⟩ := hG
      have h2 := HLEN.out
      unfold modB at h2
      rw [show modsX X = pre ++ [(kx : Int)] ++ t from ht.symm, List.flatMap_append, List.flatMap_append, ← List.append_assoc, ← List.append_assoc, ho] at h2
      simp only [List.length_append, List.flatMap_singleton] at h2
      omega
    have HOB := Lib.hid hob
    have c4 := h4.c
    have z4 := h4.lt
    have c10 := h10.c
    have z10 := h10.lt
    have k0 := hI.st.cell 0 (v := .slice As o.length cs) rfl
    have zs := hI.st.lt
    have HI := Lib.hid hI
    have HFF := Lib.hid hF
    have HZ := Lib.hid hz
    have HG := Lib.hid hG
    have HO := Lib.hid ho
    have HL := Lib.hid hl
    obtain ⟨r, hr1, hr2, hr3⟩ := hr
    have HRR := Lib.hid hr1
    have H4 := Lib.hid (And.intro h4 (And.intro h10 hb_))
    obtain ⟨i0, hii, hz0, hz1, hz2'⟩ := info_parts info_u8
    have hol : o.length ≤ 1000000 := by omega
    have hq1 : o.length + 1 ≤ maxLen := by simp [maxLen]; omega
    have hq2 : (o.length + 1) * 1 ≤ 140737488355328 := by omega
    clear hI hF hz hG ho hl hr1 hr2 hr3 h1 h4 h10 hb_ hob hmem hsz hxl
    gi_wp2
    rename_i K aK
    have HK2 : ∀ A2 c2 w10, St w10 326 sb (snVals As o.length cs Cl.zero 0) → Row 5 1 w10 (fun g => F g ∨ A.heap.size ≤ g) A2 (o.length + 1) c2 (bs o ++ bs [17]) → Keep F A w10 → K { tmps := #[.pointer (some ⟨p, 0, none⟩), .int .u8 aid, .int .i64 0, .bool false, .pointer (some ⟨w.heap.size, 0, none⟩), undef, undef, undef, .slice none 0 0, .int .i64 0, .pointer (some ⟨w1.heap.size, 0, none⟩), .int .i64 0, undef, undef, .int .i64 (kx : Int), undef, .tuple #[.pointer (some ⟨sb, 0, none⟩), .int .i64 0], .pointer (some ⟨p, 0, none⟩), .int .u8 aid, .int .i64 0, .bool false, .tuple #[.pointer (some ⟨sb, 0, none⟩), .int .i64 0], .pointer (some ⟨sb, 0, none⟩), .int .i64 0, .int .i64 0, .bool false, .bool false, .bool false, .bool false, undef, undef, undef, .pointer (some ⟨p, 0, none⟩), .bool true, .bool false, undef, undef, undef, undef, undef, undef, undef, undef, undef, undef, undef, .pointer (some ⟨p, 0, none⟩), .func (.func 260) #[] #[.pointer (some ⟨b, 0, none⟩)], .int .i64 (kx : Int), .pointer (some ⟨sb, 0, none⟩), .pointer (some ⟨sb, 0, none⟩), .pointer (some ⟨sb, 0, none⟩), .pointer (some ⟨sb, 0, none⟩), .slice As o.length cs, .slice (some ⟨A.heap.size, 0, none⟩) 1 1, .slice A2 (o.length + 1) c2, .pointer (some ⟨sb, 0, none⟩), .pointer (some ⟨sb, 0, none⟩), undef, undef, undef, undef, undef, undef, undef, undef, undef, undef, undef, undef, undef, undef, undef, undef, undef, undef, undef, undef], defers := [] } (w10.setCell ⟨sb, 0, none⟩ (.slice A2 (o.length + 1) c2)) := by
      intro A2 c2 w10 hst hrow hkA
      refine aK _ _ ?_
      have hb17 : BL [17] := BL1 (by omega)
      have hz10 := hkA.size
      have hkw : Keep F A (w10.setCell ⟨sb, 0, none⟩ (.slice A2 (o.length + 1) c2)) := hkA.setCell (p := ⟨sb, 0, none⟩) (.inl HI.out.fb) _
      have hps := SnI.push (w := A) (l := [17]) hst rfl HI.out.lt HI.out.fb hz10 hrow rfl HI.out.bl hb17
      obtain ⟨j11, held11⟩ := HJ.out.step HZ.out HFF.out ⟨_, _, hps⟩ hkw
      have b4 := H4.out.1.past hkw (fun e => (HFF.out _ e).2.2 (.inl rfl))
      have b10 := H4.out.2.1.past hkw (fun e => (HFF.out _ e).2.2 (.inr (.inl rfl)))
      have bb := H4.out.2.2.past hkw (fun e => (HFF.out _ e).2.2 (.inr (.inr rfl)))
      have hzN : ∀ k, N k → k < (w10.setCell ⟨sb, 0, none⟩ (.slice A2 (o.length + 1) c2)).heap.size := fun k hk => by have := HZ.out k hk; have := hkw.size; omega
      have HJ11 := Lib.hid j11
      have HH11 := Lib.hid held11
      have HB11 := Lib.hid (And.intro b4 (And.intro b10 bb))
      have HZ11 := Lib.hid hzN
      have c4' := b4.c
      have c10' := b10.c
      have z4' := b4.lt
      have z10' := b10.lt
      have hz11 : A.heap.size ≤ (w10.setCell ⟨sb, 0, none⟩ (.slice A2 (o.length + 1) c2)).heap.size := hkw.size
      clear hps hkw j11 held11 b4 b10 bb hzN c4 z4 c10 z10 zs k0 hst hrow hkA hz10
      generalize (w10.setCell ⟨sb, 0, none⟩ (.slice A2 (o.length + 1) c2)) = w11 at *
      have hv := Lib.hid HOK.out.valid
      have hk1 : (kx : Int) + 1 ≤ 9223372036854775807 := by have := HOK.out.len; have := HSZ.out; omega
      have hk2 : (-9223372036854775808 : Int) ≤ (kx : Int) + 1 := by omega
      gi_wp2
      refine wpIn_region_mixT 6 (NS := []) [] rfl (by kernel_rfl) (by kernel_rfl) (by simp) (by simp) ?_
      simp only [List.take_succ_cons, List.take_zero, List.drop_succ_cons, List.drop_zero]
      repeat (first
        | (refine mix_skip rfl rfl ?_; simp only [Act.put, List.setIfInBounds_toArray, List.set_cons_succ, List.set_cons_zero])
        | (refine mix_q rfl rfl rfl (by kernel_rfl) rfl rfl rfl ?_
           apply Exists.intro
           refine ⟨fun Wm => ?_, ?_⟩
           · simp only [fin]
             skip
             intro K hK
             go_wp2_with ((first | (go_at_call 63; (with_reducible refine (ssize_is (HJ11.out.s.up (up_upOf _ _))).mono ?_); rintro e w' ⟨rfl, hux⟩) | (go_at_call 89; (with_reducible refine (wrap_good _ _ _ _ hv.out).mono ?_); rintro e w' ⟨rfl, hux⟩)))
             refine hK _ _ ?_ ?_ ?_
             · (repeat (first | with_reducible exact Up.refl _ | with_reducible refine Up.alloc ?_ _ | with_reducible refine Up.drew ?_ | with_reducible refine Up.drewN ?_ _ | with_reducible refine Up.setCell ?_ (by (try simp) <;> omega) _ | with_reducible assumption | with_reducible refine Up.trans ?_ (by assumption)))
             · rfl
             · exact tmps_at rfl
           simp only [Act.put, List.setIfInBounds_toArray, List.set_cons_succ, List.set_cons_zero]))
      refine mix_nil ?_
      intro w12 hb_w12
      simp only [fin]
      have hjm := HJ11.out.up.size
      obtain ⟨F2, hsn2, hF2⟩ := HJ11.out.sn
      have hp0 := Spc.pos HOK.out
      have hn0 : 0 ≤ ((kx : Int) + 1) % (X.r * X.c) := Int.emod_nonneg _ (by omega)
      have hn1 : ((kx : Int) + 1) % (X.r * X.c) ≤ 4095 := by have := Int.emod_lt_of_pos ((kx : Int) + 1) hp0; have := HSZ.out; omega
      have HAD := Lib.hid (snaddr_is (n := ((kx : Int) + 1) % (X.r * X.c)) (hsn2.up hb_w12) hn0 hn1 (by simp; have := HOB.out; unfold fldB at this; simp at this; omega))
      have hsnlt := hsn2.lt
      have HF2 := Lib.hid hF2
      have HB12 := Lib.hid hb_w12
      clear hsn2 hF2 hn0 hn1 hb_w12
      gi_wp2_with (first | (refine ⟨trivial, ?_⟩; gi_at_call 210; (with_reducible refine (CallsIn.inRound _ (callsIn_wide.2 HAD.out)).mono ?_); rintro e w13 ⟨rfl, h13, hk13⟩; have H13 := Lib.hid h13; have HK13 := Lib.hid hk13; have c13 := ((HB11.out.1.past ((Keep.of_up HB12.out).trans hk13) (fun e => (HF2.out _ e).2.2 (.inl rfl)))).c; have z13 := cell_lt c13; clear h13 hk13) | (refine ⟨trivial, ?_⟩; gi_at_call 211; (with_reducible refine (CallsIn.inRound _ (callsIn_wide.2 (places_valS _ _ _))).mono ?_); rintro e w14 ⟨rfl, hcp, hcp2, c14f, hfp2, hu14⟩; have HU14 := Lib.hid hu14; clear hu14))
      have hk13 : Keep F2 w11 w13 := (Keep.of_up HB12.out).trans HK13.out
      have h13' := H13.out.wide (G := Gr F2 w11 w13) (fun k hk => hk.imp id (fun h => ⟨by have := HB12.out.size; omega, h.2⟩)) (Gr.lt hsnlt hk13.size)
      obtain ⟨j13, held13⟩ := HJ11.out.step HZ11.out HF2.out h13' hk13
      have u14 := HU14.out
      have hb4 := ((HB11.out.1.past hk13 (fun e => (HF2.out _ e).2.2 (.inl rfl))).up u14)
      have hb10 := ((HB11.out.2.1.past hk13 (fun e => (HF2.out _ e).2.2 (.inr (.inl rfl)))).up u14)
      have hbb := ((HB11.out.2.2.past hk13 (fun e => (HF2.out _ e).2.2 (.inr (.inr rfl)))).up u14)
      have hNA : ∀ k, N k → k < A.heap.size := HZ.out
      have z1113 : w11.heap.size ≤ w13.heap.size := hk13.size
      have heldA : Held N A w14 := (HH11.out.trans held13).trans (Held.of_up u14 (fun k hk => by have := hNA k hk; omega))
      have hl14 : w14.heap[ll]? = some (.loop r) := (heldA ll HL.out).trans HRR.out
      obtain ⟨o1, ho1⟩ : ∃ o1, (o ++ [17]) ++ encL 12 (((kx : Int) + 1) % (X.r * X.c)) = o1 := ⟨_, rfl⟩
      rw [ho1] at j13
      have ho1l : o1.length = o.length + 3 := by rw [← ho1, List.length_append, List.length_append, encL_len]; rfl
      have hw13 : w.heap.size ≤ w13.heap.size := j13.up.size
      have hz14 := cell_lt hcp2
      simp only at hz14
      have hI2 : SnJ w p g X sb (fun k => (k = w.heap.size ∨ k = w1.heap.size ∨ k = b) ∨ N k ∨ k = w13.heap.size) (fun k => k = w13.heap.size + 1) (o1 ++ txtB X []) w14 ∧ BoxAt (fun k => k = w13.heap.size + 1) w14 w.heap.size (.pointer (some ⟨p, 0, none⟩)) ∧ BoxAt (fun k => k = w13.heap.size + 1) w14 w1.heap.size (.pointer (some ⟨sb, 0, none⟩)) ∧ BoxAt (fun k => k = w13.heap.size + 1) w14 b (.pointer (some ⟨p, 0, none⟩)) ∧ BoxAt (fun k => k = w13.heap.size + 1) w14 w13.heap.size (.pointer (some ⟨p, 0, none⟩)) ∧ Held N A w14 ∧ ∀ k, N k → ¬ k = w13.heap.size + 1 ∧ k < w14.heap.size := by
        obtain ⟨F3, s3, f3⟩ := j13.sn
        have zb4 := (HB11.out.1.past hk13 (fun e => (HF2.out _ e).2.2 (.inl rfl))).lt
        have zb10 := (HB11.out.2.1.past hk13 (fun e => (HF2.out _ e).2.2 (.inr (.inl rfl)))).lt
        have zbb := (HB11.out.2.2.past hk13 (fun e => (HF2.out _ e).2.2 (.inr (.inr rfl)))).lt
        refine ⟨⟨j13.s.up u14, j13.pw, j13.up.trans u14, ⟨F3, by simpa [txtB] using s3.up u14, fun i hi => ⟨(f3 i hi).1, fun e => by have := s3.lt i hi; have e' : i = w13.heap.size + 1 := e; omega, fun e => ?_⟩⟩, fun k hk => by have hk' : k = w13.heap.size + 1 := hk; omega, fun k hk => ?_⟩, ⟨hb4.c, hb4.f, by show ¬ _ = _; omega⟩, ⟨hb10.c, hb10.f, by show ¬ _ = _; omega⟩, ⟨hbb.c, hbb.f, by show ¬ _ = _; omega⟩, ⟨hcp, c14f, by show ¬ _ = _; omega⟩, heldA, fun k hk => ⟨by have := hNA k hk; omega, by have := hNA k hk; have := heldA; omega⟩⟩
        · rcases e with e | e | e
          · exact (f3 i hi).2.2 e
          · exact (f3 i hi).2.1 e
          · have := s3.lt i hi; omega
        · rcases hk with (e | e | e) | e | e
          · omega
          · omega
          · omega
          · have := hNA k e; omega
          · omega
      have HI2 := Lib.hid hI2
      have HC2 := Lib.hid (And.intro hcp2 hfp2)
      have zq2 := cell_lt hcp2
      simp only at zq2
      have HO1 := Lib.hid (And.intro ho1 ho1l)
      clear hk13 h13' j13 held13 u14 hb4 hb10 hbb hNA heldA ho1 ho1l hI2 hcp hcp2 hfp2 c14f
      refine range_in (l₀ := ll) (r₀ := r) hl14 (gf := 262) (lb := #[.pointer (some ⟨w13.heap.size, 0, none⟩), .pointer (some ⟨w13.heap.size + 1, 0, none⟩)]) ?hg2 enters_places (places_it HOK.out (p := p) (b := w13.heap.size) (b2 := (w13.heap.size + 1)) (a := (kx : Int))) (fun _ => rfl)
        (fun k => k = w13.heap.size + 1) (fun k hk => by rw [hk]; exact zq2) (fun k hk => hk) (fun W hu => ⟨((hu.at_ (w13.heap.size + 1) zq2).1 0).trans HC2.out.1, ((hu.at_ (w13.heap.size + 1) zq2).2 0).trans HC2.out.2⟩)
        (fun N' pre' W' => SnJ w p g X sb (fun k => (k = w.heap.size ∨ k = w1.heap.size ∨ k = b) ∨ N k ∨ k = w13.heap.size) N' (o1 ++ txtB X pre') W' ∧ BoxAt N' W' w.heap.size (.pointer (some ⟨p, 0, none⟩)) ∧ BoxAt N' W' w1.heap.size (.pointer (some ⟨sb, 0, none⟩)) ∧ BoxAt N' W' b (.pointer (some ⟨p, 0, none⟩)) ∧ BoxAt N' W' w13.heap.size (.pointer (some ⟨p, 0, none⟩)) ∧ Held N A W' ∧ ∀ k, N k → ¬ N' k ∧ k < W'.heap.size)
        (fun _ _ _ _ => False) ?own2 (fun _ _ _ _ _ _ h _ _ => h) ?see2 HI2.out
        (fun pre' x' a' N' W' => pre' ++ [x'] <+: X.places (kx : Int) ∧ a' = { tmps := #[.pointer (some ⟨p, 0, none⟩), .int .u8 aid, .int .i64 0, .bool false, .pointer (some ⟨w.heap.size, 0, none⟩), undef, undef, undef, .slice none 0 0, .int .i64 0, .pointer (some ⟨w1.heap.size, 0, none⟩), .int .i64 0, undef, undef, .int .i64 (kx : Int), .int .i64 x', .tuple #[.pointer (some ⟨sb, 0, none⟩), .int .i64 0], .pointer (some ⟨p, 0, none⟩), .int .u8 aid, .int .i64 0, .bool false, .tuple #[.pointer (some ⟨sb, 0, none⟩), .int .i64 0], .pointer (some ⟨sb, 0, none⟩), .int .i64 0, .int .i64 0, .bool false, .bool false, .bool false, .bool false, undef, undef, undef, .pointer (some ⟨p, 0, none⟩), .bool true, .bool false, undef, undef, undef, undef, undef, undef, undef, undef, undef, undef, undef, .pointer (some ⟨p, 0, none⟩), .func (.func 260) #[] #[.pointer (some ⟨b, 0, none⟩)], .int .i64 (kx : Int), .pointer (some ⟨sb, 0, none⟩), .pointer (some ⟨sb, 0, none⟩), .pointer (some ⟨sb, 0, none⟩), .pointer (some ⟨sb, 0, none⟩), .slice As o.length cs, .slice (some ⟨A.heap.size, 0, none⟩) 1 1, .slice A2 (o.length + 1) c2, .pointer (some ⟨sb, 0, none⟩), .pointer (some ⟨sb, 0, none⟩), .pointer (some ⟨sb, 0, none⟩), .pointer (some ⟨p, 0, none⟩), .agg #[.int .i64 X.r, .int .i64 X.c], .int .i64 (kx : Int), .int .i64 ((kx : Int) + 1), .int .i64 (((kx : Int) + 1) % (X.r * X.c)), .tuple #[], .pointer (some ⟨p, 0, none⟩), .int .i64 (kx : Int), .func (.func 262) #[] #[.pointer (some ⟨w13.heap.size, 0, none⟩), .pointer (some ⟨w13.heap.size + 1, 0, none⟩)], .int .i64 x', undef, undef, undef, undef, undef, undef, undef, undef, undef], defers := [] })
        (fun _ _ _ _ _ _ _ _ h _ _ => h) ?assign2 ?body2 ?done2 (fun _ _ _ _ _ _ h => h.elim)
      case hg2 => rfl
      case own2 =>
        rintro N1 N2 s A1 A2' ⟨h1, h2, h3, h4, h5, h6, h7⟩ hk hn
        exact ⟨h1.keep hk hn, h2.keep hk hn, h3.keep hk hn, h4.keep hk hn, h5.keep hk hn, fun k hN => (hk.block k (h7 k hN).2 (h7 k hN).1).trans (h6 k hN), fun k hN => ⟨fun h => by
          rcases hn _ h with h | h
          · exact (h7 k hN).1 h
          · have := (h7 k hN).2; omega, by have := (h7 k hN).2; have := hk.size; omega⟩⟩
      case see2 =>
        rintro N' pre' W' ⟨h1, h2, h3, h4, h5, h6, h7⟩
        exact ⟨g, X, h1.s, HOK.out, Alike.refl X, h5.c⟩
      case assign2 =>
        rintro l2 N2 pre2 x2 W2 K2 hz2 hI2 hG2 hK2
        have HI2 := Lib.hid hI2
        have HG2 := Lib.hid hG2
        clear hI2 hG2
        gi_wp2
        exact hK2 _ _ (Held.refl _ _) HI2.out ⟨HG2.out, rfl⟩
      case body2 =>
        rintro l2 N2 pre2 x2 a2 A2' hl2 hr2 hz2 ⟨j1, j2, j3, j4, j5, j6, j7⟩ ⟨hG2, rfl⟩
        have HJ2 := Lib.hid j1
        obtain ⟨F4, s4, f4⟩ := j1.sn
        obtain ⟨d, hd⟩ : ∃ d, X.at_ x2 = d := ⟨_, rfl⟩
        have hdw : d.Wf := hd ▸ HOK.out.at_wf x2
        have hdse : (d.se == 241) = false := hd ▸ HGR.out x2
        have hpl : (txtB X pre2).length ≤ (txtB X (X.places (kx : Int))).length := txtB_pre X ((List.prefix_append pre2 [x2]).trans hG2)
        have hlen2 : (o1 ++ txtB X pre2).length ≤ 1000000 := by
          have h1 := HOB.out
          have h2 := HO1.out.2
          unfold fldB at h1
          rw [List.length_append, List.length_cons, encL_len] at h1
          rw [List.length_append]
          omega
        have HSO := Lib.hid (fun W (hu : Up A2' W) => snsome_is (s4.up hu) (d := d) rfl hdw hdse hlen2)
        have HSA := Lib.hid (fun W (hu : Up A2' W) => sat_op x2 (j1.s.up hu) HOK.out hd)
        have q4 := j2.c
        have z4q := j2.lt
        have q10 := j3.c
        have z10q := j3.lt
        have HBX := Lib.hid (And.intro j2 (And.intro j3 (And.intro j4 (And.intro j5 (And.intro j6 j7)))))
        have HF4 := Lib.hid f4
        have HD := Lib.hid hd
        have HZ2 := Lib.hid hz2
        have HLT4 := Lib.hid s4.lt
        clear j1 s4 f4 hdw hdse hpl hlen2 j2 j3 j4 j5 j6 j7 hd hz2 hr2 hl2
        obtain ⟨dch, da, dfa, dhi, dco, dse⟩ := d
        simp only [Cl.val] at HSO
        gi_wp2
        refine wpIn_region_mixT 4 (NS := []) [] rfl (by kernel_rfl) (by kernel_rfl) (by simp) (by simp) ?_
        simp only [List.take_succ_cons, List.take_zero, List.drop_succ_cons, List.drop_zero]
        repeat (first
          | (refine mix_skip rfl rfl ?_; simp only [Act.put, List.setIfInBounds_toArray, List.set_cons_succ, List.set_cons_zero])
          | (refine mix_q rfl rfl rfl (by kernel_rfl) rfl rfl rfl ?_
             apply Exists.intro
             refine ⟨fun Wm => ?_, ?_⟩
             · simp only [fin]
               skip
               intro K hK
               go_wp2_with ((go_at_call 42; (with_reducible refine (HSA.out _ (up_upOf _ _)).mono ?_); rintro e w' ⟨rfl, hux⟩))
               refine hK _ _ ?_ ?_ ?_
               · (repeat (first | with_reducible exact Up.refl _ | with_reducible refine Up.alloc ?_ _ | with_reducible refine Up.drew ?_ | with_reducible refine Up.drewN ?_ _ | with_reducible refine Up.setCell ?_ (by (try simp) <;> omega) _ | with_reducible assumption | with_reducible refine Up.trans ?_ (by assumption)))
               · rfl
               · exact tmps_at rfl
             simp only [Act.put, List.setIfInBounds_toArray, List.set_cons_succ, List.set_cons_zero]))
        refine mix_nil ?_
        intro w20 hb_w20
        simp only [fin]
        have HB20 := Lib.hid hb_w20
        have HS20 := Lib.hid (HSO.out _ hb_w20)
        clear hb_w20
        gi_wp2_with (refine ⟨trivial, ?_⟩; gi_at_call 208; (with_reducible refine (CallsIn.inRound _ (callsIn_wide.2 HS20.out)).mono ?_); rintro e w21 ⟨rfl, h21, hk21⟩; have H21 := Lib.hid h21; have HK21 := Lib.hid hk21; clear h21 hk21)
        obtain ⟨j2, j3, j4, j5, j6, j7⟩ := HBX.out
        have hk : Keep F4 A2' w21 := (Keep.of_up HB20.out).trans HK21.out
        have h21w := H21.out.wide (G := Gr F4 A2' w21) (fun k hk => hk.imp id (fun h => ⟨by have := HB20.out.size; omega, h.2⟩)) (Gr.lt HLT4.out hk.size)
        obtain ⟨jj, hh⟩ := HJ2.out.step HZ2.out HF4.out h21w hk
        refine ⟨hh, ?_, j2.past hk (fun e => (HF4.out _ e).2.2 (.inl (.inl rfl))), j3.past hk (fun e => (HF4.out _ e).2.2 (.inl (.inr (.inl rfl)))), j4.past hk (fun e => (HF4.out _ e).2.2 (.inl (.inr (.inr rfl)))), j5.past hk (fun e => (HF4.out _ e).2.2 (.inr (.inr rfl))), j6.trans (Held.of_keep hk (fun k h => ⟨(j7 k h).2, fun e => (HF4.out _ e).2.2 (.inr (.inl h))⟩)), fun k h => ⟨(j7 k h).1, by have := hk.size; have := (j7 k h).2; omega⟩⟩
        rw [txtB_snoc, HD.out, ← List.append_assoc]
        exact jj
      case done2 =>
        rintro N3 xs W3 hN3 hS3 ⟨j1, j2, j3, j4, j5, j6, j7⟩
        rw [hS3] at j1
        obtain ⟨F4, s4, f4⟩ := j1.sn
        have hfin : (aid :: encL 12 X.cur) ++ (pre ++ [(kx : Int)]).flatMap (fldB X) = o1 ++ txtB X (X.places (kx : Int)) := by
          rw [List.flatMap_append, ← List.append_assoc, HO.out, List.flatMap_singleton, ← HO1.out.1]
          unfold fldB
          simp
        gi_wp2
        refine ⟨j6, ?_⟩
        show SnJ w p g X sb _ N ((aid :: encL 12 X.cur) ++ (pre ++ [(kx : Int)]).flatMap (fldB X)) W3 ∧ _
        rw [hfin]
        exact ⟨⟨j1.s, j1.pw, j1.up, ⟨F4, s4, fun i hi => ⟨(f4 i hi).1, fun e => (f4 i hi).2.2 (.inr (.inl e)), fun e => (f4 i hi).2.2 (.inl e)⟩⟩, HJ.out.nw, fun k hk => j1.vb k (.inl hk)⟩, ⟨j2.c, j2.f, H4.out.1.n⟩, ⟨j3.c, j3.f, H4.out.2.1.n⟩, ⟨j4.c, j4.f, H4.out.2.2.n⟩⟩
    gi_region_with ((refine uponIn_row (cx := 1) (F := F) (xs := bs o) (B := A.heap.size + 1) (news := bs [17]) 30 30 5 i0 _ 1 1 Tryz.underlying30 hii hz0 hz1 hz2' rfl (by decide) ?_ ?_ (one_bs [17]) hq1 hq2 ?_; exact HI.out.row.up (by (repeat (first | with_reducible exact Up.refl _ | with_reducible refine Up.alloc ?_ _ | with_reducible refine Up.drew ?_ | with_reducible refine Up.drewN ?_ _ | with_reducible refine Up.setCell ?_ (by (try simp) <;> omega) _ | with_reducible assumption | with_reducible refine Up.trans ?_ (by assumption)))); (first | exact Reads.drew (reads_at A A.heap.size 1 1 #[.int .u8 17] 5 rfl rfl) | exact reads_at _ A.heap.size 1 1 #[.int .u8 17] 5 rfl rfl); intro A2 c2 w10 hr2 hg2 hb2; have hkA : Keep F A w10 := (Keep.of_up (by (repeat (first | with_reducible exact Up.refl _ | with_reducible refine Up.alloc ?_ _ | with_reducible refine Up.drew ?_ | with_reducible refine Up.drewN ?_ _ | with_reducible refine Up.setCell ?_ (by (try simp) <;> omega) _ | with_reducible assumption | with_reducible refine Up.trans ?_ (by assumption))))).trans (Keep.grown hg2 (fun g hg => HI.out.row.in_ g hg)); have hr3 : Row 5 1 w10 (fun g => F g ∨ A.heap.size ≤ g) A2 (o.length + 1) c2 (bs o ++ bs [17]) := hr2.mono (fun g hg => hg.imp id (fun e => (by rw [e]; exact Up.size (by (repeat (first | with_reducible exact Up.refl _ | with_reducible refine Up.alloc ?_ _ | with_reducible refine Up.drew ?_ | with_reducible refine Up.drewN ?_ _ | with_reducible refine Up.setCell ?_ (by (try simp) <;> omega) _ | with_reducible assumption | with_reducible refine Up.trans ?_ (by assumption))))))); have st2 : St w10 326 sb (snVals As o.length cs Cl.zero 0) := (HI.out.st.up (by (repeat (first | with_reducible exact Up.refl _ | with_reducible refine Up.alloc ?_ _ | with_reducible refine Up.drew ?_ | with_reducible refine Up.drewN ?_ _ | with_reducible refine Up.setCell ?_ (by (try simp) <;> omega) _ | with_reducible assumption | with_reducible refine Up.trans ?_ (by assumption))))).grown hg2 (HI.out.row.ne HI.out.st ne_sn8); have g0 := st2.cell 0 (v := .slice As o.length cs) rfl; have gf0 := st2.free 0; have zb2 := st2.lt; have c10n := (H4.out.2.1.past hkA (fun e => (HFF.out _ e).2.2 (.inr (.inl rfl)))).c; have z10n := cell_lt c10n; have ST2 := Lib.hid st2; have HR2 := Lib.hid hr3; have HKA := Lib.hid hkA; clear hr2 hg2 hb2))
    all_goals exact HK2 A2 c2 w10 st2 hr3 hkA
  case done =>
    rintro Dd N xs A hD hND hN0 hS ⟨h1, h4, h10, hb_⟩ hK
    have hxs : xs = modsX X := hS
    obtain ⟨F, ⟨As, cs, hI⟩, hF⟩ := h1.sn
    obtain ⟨o, ho⟩ : ∃ o, (aid :: encL 12 X.cur) ++ xs.flatMap (fldB X) = o := ⟨_, rfl⟩
    have hoe : o = modB X aid := by rw [← ho, hxs]; rfl
    rw [ho] at hI
    have c10 := h10.c
    have z10 := h10.lt
    have k0 := hI.st.cell 0 (v := .slice As o.length cs) rfl
    have zs := hI.st.lt
    have HI := Lib.hid hI
    have HUP := Lib.hid h1.up
    have HK := Lib.hid hK
    have HOE := Lib.hid hoe
    have HD := Lib.hid hD
    have hnF : ∀ i, F i → i ≠ Dd := fun i hi e => (hF i hi).2.1 (e ▸ hND)
    have HNF := Lib.hid hnF
    have HF := Lib.hid hF
    clear h1 h4 h10 hb_ hK hS hI hoe ho hF hxs hnF
    go_wp2_with fail
    have hkD : Keep (fun k => k = Dd) A (A.putObj Dd (.deferred none)) := ⟨rfl, rfl, rfl, by simp, fun k _ hk => World.putObj_heap_other hk⟩
    have hrow := HI.out.row.keep hkD (fun g hg e => HNF.out g (HI.out.row.in_ g hg) e)
    have hbt : Bt (A.putObj Dd (.deferred none)) (fun i => w.heap.size ≤ i) As o.length cs o := Bt.of_row (hrow.mono (fun g hg => (HF.out g hg).1)) HI.out.bl
    have hzD : w.heap.size ≤ Dd := by have := HD.out; omega
    refine ⟨by simp, .inl ⟨_, _, rfl, run_takeDeferred HK.out, ⟨_, results_tmp2 rfl _ _ _, As, cs, ?_, ?_, HUP.out.keep hkD (fun i hi => by have hi' : i = Dd := hi; omega)⟩⟩⟩
    · rw [← HOE.out]; rfl
    · rw [← HOE.out]; exact hbt
end Go.Proofs.YtamfjgioajmnpaaGreatDoor
