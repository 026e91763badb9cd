/-
A tally's index; sync.Once over it; counter, Add, Get. No condition.
A tally's counter, Add, Get. No condition but one of its names.
A line's reader in plain words: what is under way, what was told. No condition.
-/
import Derived.Test.YtamfjgioajmnpaaGreatDoorJa24
import Derived.Test.YtamfjgioajmnpaaGreatDoorJa2
namespace Go.Proofs.YtamfjgioajmnpaaGreatDoor
open Go.RowKit Go.Maps
set_option linter.unusedVariables false
set_option linter.unusedSimpArgs false

section
variable {w w' : World} {b g1 c1 g2 : Nat} {F G E : Nat → Prop} {V : List Int} {dn st : Int} {mp : Option Nat}
theorem ne_tl1 : 225 ≠ 9 := by decide
theorem ne_tl2 : 225 ≠ 230 := by decide
theorem set_size (w : World) (p : Addr) (v : Value) : (w.setCell p v).heap.size = w.heap.size := by simp [World.setCell]
theorem TlC.setDn (h : TlC w b F V g1 c1 g2 dn st mp) (v : Int) : TlC (w.setCell ⟨b, 2, none⟩ (.int .u32 v)) b F V g1 c1 g2 v st mp :=
  ⟨h.st.set 2 (.int .u32 v), h.fb, h.nm.struct h.st ne_tl1 2 _, h.ct.struct h.st ne_tl2 2 _, fun k hk => by rw [set_size]; exact h.lt k hk⟩
theorem TlC.setSt (h : TlC w b F V g1 c1 g2 dn st mp) (v : Int) : TlC (w.setCell ⟨b, 3, none⟩ (.int .i32 v)) b F V g1 c1 g2 dn v mp :=
  ⟨h.st.set 3 (.int .i32 v), h.fb, h.nm.struct h.st ne_tl1 3 _, h.ct.struct h.st ne_tl2 3 _, fun k hk => by rw [set_size]; exact h.lt k hk⟩
theorem TlC.setMp (h : TlC w b F V g1 c1 g2 dn st mp) (v : Option Nat) : TlC (w.setCell ⟨b, 5, none⟩ (.map v)) b F V g1 c1 g2 dn st v :=
  ⟨h.st.set 5 (.map v), h.fb, h.nm.struct h.st ne_tl1 5 _, h.ct.struct h.st ne_tl2 5 _, fun k hk => by rw [set_size]; exact h.lt k hk⟩
theorem TlC.drew (h : TlC w b F V g1 c1 g2 dn st mp) : TlC w.drew b F V g1 c1 g2 dn st mp := ⟨h.st, h.fb, h.nm.up ((Up.refl w).drew), h.ct.up ((Up.refl w).drew), h.lt⟩
theorem TlC.up (h : TlC w b F V g1 c1 g2 dn st mp) (hu : Up w w') : TlC w' b F V g1 c1 g2 dn st mp := h.hold (fun k hk => hu.block k (h.lt k hk)) hu.size
end
theorem makeM6 (w : World) : (Instr.makeMap 223 (some (.int .i64 6))).run Tryz.prog w = .ok (.map (some w.heap.size)) (w.alloc (.map #[] 0)) := by
  have h := Tryz.underlying223
  simp [Instr.makeMap, run_underlying h, asInt, go_sem]
theorem keyS : Keyed Tryz.prog 9 := string_keyed Tryz.underlying9
theorem keyS_mk (s : ByteArray) (h : s.size ≤ maxLen) : keyOf Tryz.prog 9 (.string s) = some (.string s.data.toList) := by
  simp [keyOf, show Tryz.prog.underlying 9 = _ from Tryz.underlying9, mapKey, h]
theorem tN_sz : ∀ j, j < 6 → (tN.getD j eS).size ≤ 40 := by
  intro j hj
  obtain rfl | rfl | rfl | rfl | rfl | rfl : j = 0 ∨ j = 1 ∨ j = 2 ∨ j = 3 ∨ j = 4 ∨ j = 5 := by omega
  all_goals decide
set_option maxRecDepth 100000 in
set_option maxHeartbeats 3200000 in
theorem tindex_is {w : World} {b g1 c1 g2 : Nat} {F : Nat → Prop} {V : List Int} (h : TlC w b F V g1 c1 g2 0 1 none) :
    Calls Tryz.prog 116 #[.pointer (some ⟨b, 0, none⟩)] w fun e w' => e = .returned (.tuple #[]) ∧ ∃ m, w.heap.size ≤ m ∧ TlC w' b F V g1 c1 g2 0 1 (some m) ∧ TMap w' m 6 ∧ Keep (fun k => k = b) w w' := by
  have hb0 := h.st.lt
  have k0 := h.st.cell 0 (v := .slice (some ⟨g1, 0, none⟩) 6 c1) rfl
  have k5 := h.st.cell 5 (v := .map none) rfl
  have f5 := h.st.free 5
  have H := Lib.hid h
  clear h
  have hmm := makeM6
  go_enter Tryz.func116, Tryz.ntmps116
  go_wp2_with fail
  have hk0 : Keep (fun k => k = b) w ((w.setCell ⟨b, 5, none⟩ (.map (some w.heap.size))).alloc (.map #[] 0)) := ((Keep.refl (fun k => k = b) w).setCell (p := ⟨b, 5, none⟩) (.inl rfl) _).alloc _
  have hc0 : TlC ((w.setCell ⟨b, 5, none⟩ (.map (some w.heap.size))).alloc (.map #[] 0)) b F V g1 c1 g2 0 1 (some w.heap.size) := (H.out.setMp (some w.heap.size)).up ((Up.refl _).alloc _)
  have hm0 : TMap ((w.setCell ⟨b, 5, none⟩ (.map (some w.heap.size))).alloc (.map #[] 0)) w.heap.size 0 := by
    have := World.ownsMap_made (w.setCell ⟨b, 5, none⟩ (.map (some w.heap.size))) Tryz.prog 9 (plainElem (H := Unit) Tryz.prog 3)
    rw [set_size] at this
    exact this
  obtain ⟨m, hm⟩ : ∃ m, m = w.heap.size := ⟨_, rfl⟩
  generalize (w.setCell ⟨b, 5, none⟩ (.map (some w.heap.size))).alloc (.map #[] 0) = w0 at *
  rw [← hm] at hc0 hm0
  have HM := Lib.hid hm
  clear hm hmm k0 k5 f5
  go_loopw [18] (fun q wr => ∃ j : Nat, j ≤ 6 ∧ q = .int .i64 (j : Int) ∧ TlC wr b F V g1 c1 g2 0 1 (some m) ∧ TMap wr m j ∧ Keep (fun k => k = b) w wr) (fun q _ => 6 - (intOf q).toNat)
  case atStart => exact ⟨0, by omega, rfl, hc0, hm0, hk0⟩
  case round =>
    obtain ⟨j, hj, rfl, hc, hmp, hk⟩ := hrel
    have HC := Lib.hid hc
    have HK := Lib.hid hk
    have k5 := hc.st.cell 5 (v := .map (some m)) rfl
    have hbl := hc.st.lt
    by_cases hlt : j < 6
    · have hcx := (hc.nm.cellAt (str_at (L := tN) hlt)).1
      have hD : tMap (j + 1) = (tMap j).put (.string (tN.getD j eS).data.toList) (.lit (.int .i64 j)) := rfl
      have hsz := tN_sz j hlt
      generalize tN.getD j eS = x at hcx hD hsz
      have HD := Lib.hid hD
      have hwf : (Lit.int .i64 (j : Int)).wf = true := by
        simp only [Lit.wf, show IntKind.min .i64 = -9223372036854775808 by decide, show IntKind.max .i64 = 9223372036854775807 by decide, Bool.and_eq_true, decide_eq_true_eq]
        omega
      have hkey := keyS_mk x (by unfold maxLen; omega)
      clear hc hk hD
      go_wp2_with (at_mapUpdate; refine wpList_mapUpdate_own _ rfl _ _ _ 223 rfl 9 3 keyS Tryz.underlying223 _ m j _ rfl hmp (by unfold maxLen; omega) _ _ _ rfl rfl hkey _ [] (plainElem_int Tryz.underlying3 hwf) ?_; intro w3 hown3 hgrow3; have HO3 := Lib.hid hown3; have HG3 := Lib.hid hgrow3; clear hown3 hgrow3)
      have hm1 := HM.out
      refine ⟨⟨j + 1, by omega, by go_num, HC.out.hold (fun k hk => HG3.out.block k (HC.out.lt k hk) (fun e => ?_)) HG3.out.size, by unfold TMap; rw [HD.out]; exact HO3.out, HK.out.far (Below.grown (Below.refl _ _) HG3.out HK.out.size (fun g hg => by injection hg with hg; omega))⟩, ?_⟩
      · injection e with e
        have := H.out.lt k hk
        omega
      · simp [intOf]; omega
    · obtain rfl : j = 6 := by omega
      have HMP := Lib.hid hmp
      clear hc hk hmp
      go_wp2_with fail
      go_end0
      exact ⟨rfl, m, by have := HM.out; omega, HC.out, HMP.out, HK.out⟩
/-- behind the first call -/
def TDone (b : Nat) (F : Nat → Prop) (V : List Int) (g1 c1 g2 : Nat) (dn st : Int) (w w' : World) : Prop := ∃ m, w.heap.size ≤ m ∧ TlC w' b F V g1 c1 g2 dn st (some m) ∧ TMap w' m 6 ∧ Keep (fun k => k = b) w w'
theorem TMap.keep {E : Nat → Prop} {w w' : World} {m n : Nat} (h : TMap w m n) (hk : Keep E w w') (he : ¬ E m) : TMap w' m n := h.at_ (hk.block m (World.ownsMap.lt h) he)
set_option maxRecDepth 100000 in
set_option maxHeartbeats 1600000 in
theorem tslow_is {w : World} {b g1 c1 g2 : Nat} {F : Nat → Prop} {V : List Int} (h : TlC w b F V g1 c1 g2 0 0 none) :
    Calls Tryz.prog 161 #[.pointer (some ⟨b, 2, none⟩), .func (.func 116) #[.pointer (some ⟨b, 0, none⟩)] #[]] w fun e w' => e = .returned (.tuple #[]) ∧ TDone b F V g1 c1 g2 1 0 w w' := by
  have h1 := h.setSt 1
  have hl := run_call_load (P := Tryz.prog) Tryz.func215 (by kernel_rfl) (by kernel_rfl) (by kernel_rfl) .u32 (by kernel_rfl) (w := w.setCell ⟨b, 3, none⟩ (.int .i32 1)) (a := ⟨b, 2, none⟩) (x := 0) (h1.st.cell 2 rfl)
  have hnot : ∀ (x : Bool) (w : World), (Op.unary .not (.bool x)).run Tryz.prog w = .ok (.bool (!x)) w := fun _ _ => rfl
  have hst : w.cell? ⟨b, 3, none⟩ = some (.int .i32 0) := h.st.cell 3 rfl
  have hfz := h.st.free 3
  have hlt := h.st.lt
  have HI := Lib.hid (tindex_is h1)
  go_enter_defers Tryz.func161, Tryz.ntmps161
  go_wp2_with (first | (go_at_call 216; refine (lock_free ⟨b, 3, none⟩ _ hst hfz).mono ?_; rintro e w' ⟨rfl, rfl⟩))
  go_wp2_with (first | (go_at_call 116; refine HI.out.mono ?_; rintro e w2 ⟨rfl, m, hm, hp2, hmp2, hn2⟩) | (go_at_call 160; go_in))
  refine leaves_cons (f := 218) (args := #[.pointer (some ⟨b, 2, none⟩), .bool true]) (by simp) (by simp [go_sem]) ?_
  refine (store_deferred ⟨b, 2, none⟩ (.int .u32 0) .returning _ (hp2.st.cell 2 rfl) (hp2.st.free 2)).mono ?_
  rintro e u' w3 ⟨rfl, rfl, rfl⟩
  have hp3 := hp2.drew.setDn 1
  have hnm : ¬ m = b := by
    have : w.heap.size ≤ m := by rwa [set_size] at hm
    omega
  have hk3 : Keep (fun k => k = b) w2 (w2.drew.setCell ⟨b, 2, none⟩ (.int .u32 1)) := ((Keep.refl (fun k => k = b) w2).drew).setCell (p := ⟨b, 2, none⟩) (.inl rfl) _
  have hmp3 : TMap (w2.drew.setCell ⟨b, 2, none⟩ (.int .u32 1)) m 6 := hmp2.keep hk3 hnm
  refine leaves_cons (f := 217) (args := #[.pointer (some ⟨b, 3, none⟩)]) (by simp [settle]) (by simp [go_sem]) ?_
  refine (unlock_deferred ⟨b, 3, none⟩ _ _ (hp3.st.cell 3 rfl) (hp3.st.free 3)).mono ?_
  rintro e u' w4 ⟨rfl, rfl, rfl⟩
  have hp4 := hp3.setSt 0
  have hk4 : Keep (fun k => k = b) (w2.drew.setCell ⟨b, 2, none⟩ (.int .u32 1)) ((w2.drew.setCell ⟨b, 2, none⟩ (.int .u32 1)).setCell ⟨b, 3, none⟩ (.int .i32 0)) := (Keep.refl (fun k => k = b) _).setCell (p := ⟨b, 3, none⟩) (.inl rfl) _
  have hmp4 := hmp3.keep hk4 hnm
  have hk0 : Keep (fun k => k = b) w (w.setCell ⟨b, 3, none⟩ (.int .i32 1)) := (Keep.refl (fun k => k = b) w).setCell (p := ⟨b, 3, none⟩) (.inl rfl) _
  have hk5 := ((hk0.trans hn2).trans hk3).trans hk4
  have hm' : w.heap.size ≤ m := by rwa [set_size] at hm
  simp [Leaves, settle, results, Tryz.results161]
  exact ⟨m, hm', hp4, hmp4, hk5⟩
set_option maxRecDepth 100000 in
set_option maxHeartbeats 1600000 in
theorem tdo_first {w : World} {b g1 c1 g2 : Nat} {F : Nat → Prop} {V : List Int} (h : TlC w b F V g1 c1 g2 0 0 none) :
    Calls Tryz.prog 115 #[.pointer (some ⟨b, 2, none⟩), .func (.func 116) #[.pointer (some ⟨b, 0, none⟩)] #[]] w fun e w' => e = .returned (.tuple #[]) ∧ TDone b F V g1 c1 g2 1 0 w w' := by
  have hl := run_call_load (P := Tryz.prog) Tryz.func215 (by kernel_rfl) (by kernel_rfl) (by kernel_rfl) .u32 (by kernel_rfl) (w := w) (a := ⟨b, 2, none⟩) (x := 0) (h.st.cell 2 rfl)
  have hnot : ∀ (x : Bool) (w : World), (Op.unary .not (.bool x)).run Tryz.prog w = .ok (.bool (!x)) w := fun _ _ => rfl
  have HS := Lib.hid (tslow_is h)
  clear h
  go_enter Tryz.func115, Tryz.ntmps115
  go_wp2_with (first | (go_at_call 161; refine HS.out.mono ?_; rintro e w' ⟨rfl, hd⟩) | (go_at_call 160; go_in))
  go_end0
  exact ⟨rfl, hd⟩
end Go.Proofs.YtamfjgioajmnpaaGreatDoor
namespace Go.Proofs.YtamfjgioajmnpaaGreatDoor
open Go.RowKit Go.Maps
set_option linter.unusedVariables false
set_option linter.unusedSimpArgs false

theorem tMap_has : ∀ i, i < 6 → Maps.has (tMap 6) (.string (tN.getD i eS).data.toList) = true := by
  intro j hj
  obtain rfl | rfl | rfl | rfl | rfl | rfl : j = 0 ∨ j = 1 ∨ j = 2 ∨ j = 3 ∨ j = 4 ∨ j = 5 := by omega
  all_goals kernel_rfl
theorem tMap_at : ∀ i, i < 6 → (tMap 6).atKey (.string (tN.getD i eS).data.toList) (.lit (.int .i64 0)) = .lit (.int .i64 i) := by
  intro j hj
  obtain rfl | rfl | rfl | rfl | rfl | rfl : j = 0 ∨ j = 1 ∨ j = 2 ∨ j = 3 ∨ j = 4 ∨ j = 5 := by omega
  all_goals kernel_rfl
theorem zeroI (w : World) : (zeroValue 3).run Tryz.prog w = .ok (.int .i64 0) w := by kernel_rfl
/-- built: a tally's counters can be found -/
structure TlB (w : World) (b : Nat) (F : Nat → Prop) (V : List Int) (g1 c1 g2 m : Nat) : Prop where
  c : TlC w b F V g1 c1 g2 1 0 (some m)
  fm : F m
  mp : TMap w m 6
theorem tonce_is {w : World} {b : Nat} {F : Nat → Prop} {V : List Int} (h : TlAt w b F V) :
    Calls Tryz.prog 115 #[.pointer (some ⟨b, 2, none⟩), .func (.func 116) #[.pointer (some ⟨b, 0, none⟩)] #[]] w fun e w' => e = .returned (.tuple #[]) ∧ (∃ g1 c1 g2 m, TlB w' b (Gr F w w') V g1 c1 g2 m) ∧ Keep (fun k => k = b) w w' := by
  obtain ⟨g1, c1, g2, h | ⟨m, hm, h, hp⟩⟩ := h
  · refine (tdo_first h).mono ?_
    rintro e w' ⟨rfl, m, hm, hc, hmp, hk⟩
    have hlt := World.ownsMap.lt hmp
    exact ⟨rfl, ⟨g1, c1, g2, m, hc.mono (fun k hk' => .inl hk') (Gr.lt h.lt hk.size), .inr ⟨hm, hlt⟩, hmp⟩, hk⟩
  · refine (do_done ⟨b, 2, none⟩ _ w (h.st.cell 2 rfl)).mono ?_
    rintro e w' ⟨rfl, rfl⟩
    exact ⟨rfl, ⟨g1, c1, g2, m, h.mono (fun k hk' => .inl hk') (Gr.lt h.lt (Nat.le_refl _)), .inl hm, hp⟩, Keep.refl _ _⟩
set_option maxRecDepth 100000 in
set_option maxHeartbeats 1600000 in
theorem tcounter_is {w : World} {b i : Nat} {F : Nat → Prop} {V : List Int} {s : ByteArray} (h : TlAt w b F V) (hi : i < 6) (hs : s = tN.getD i eS) :
    Calls Tryz.prog 65 #[.pointer (some ⟨b, 0, none⟩), .string s] w fun e w' => ∃ g1 c1 g2 m, e = .returned (.pointer (some ⟨g2, i, none⟩)) ∧ TlB w' b (Gr F w w') V g1 c1 g2 m ∧ Keep (fun k => k = b) w w' := by
  have HO := Lib.hid (tonce_is h)
  have hmf : ∀ (fn : Fn) (first cap : Array Value) (w : World), (Instr.makeFunc fn first cap).run Tryz.prog w = .ok (.func fn first cap) w := fun _ _ _ _ => rfl
  have hnot : ∀ (x : Bool) (w : World), (Op.unary .not (.bool x)).run Tryz.prog w = .ok (.bool (!x)) w := fun _ _ => rfl
  have hsz : s.size ≤ maxLen := by have := tN_sz i hi; rw [hs]; unfold maxLen; omega
  have hkey := keyS_mk s hsz
  have hhas := tMap_has i hi
  have hat := tMap_at i hi
  rw [← hs] at hhas hat
  have HAT := Lib.hid (fun c hc => show c = (i : Int) from by
    have h1 := hat.symm.trans hc
    injection h1 with h1
    injection h1 with _ h1
    exact h1.symm : ∀ c : Int, (tMap 6).atKey (.string s.data.toList) (.lit (.int .i64 0)) = .lit (.int .i64 c) → c = (i : Int))
  clear hat hs h
  generalize hD : tMap 6 = D at *
  have HD := Lib.hid hD
  clear hD
  go_enter Tryz.func65, Tryz.ntmps65
  go_wp2_with (first
    | (go_at_call 115; refine HO.out.mono ?_; rintro e w1 ⟨rfl, ⟨g1, c1, g2, m, hb⟩, hk⟩; have k5 := hb.c.st.cell 5 (v := .map (some m)) rfl; have k1 := hb.c.st.cell 1 (v := .slice (some ⟨g2, 0, none⟩) 6 6) rfl; have hmp := hb.mp; unfold TMap at hmp; rw [HD.out] at hmp; have hbl := hb.c.st.lt; have HB := Lib.hid hb; have HK := Lib.hid hk; clear hb hk)
    | (at_lookup; refine wpList_lookup_own_ok_int _ rfl _ _ 223 rfl 9 3 .i64 keyS Tryz.underlying223 Tryz.underlying3 (zeroI _) m 6 D rfl hmp _ _ rfl hkey ?_; intro c hat hwc; have hc := HAT.out c hat; subst hc; clear hat hwc))
  go_ret
  exact ⟨g1, c1, g2, m, rfl, HB.out, HK.out⟩
def addU (x y : Int) : Int := IntKind.u64.wrap (x + y)
theorem u64add_is {w : World} {a : Addr} {x y : Int} (hc : w.cell? a = some (.int .u64 x)) (hz : w.frozen? a = false) : Calls Tryz.prog 148 #[.pointer (some a), .int .u64 y] w fun e w' => e = .returned (.int .u64 (addU x y)) ∧ w.setCell a (.int .u64 (addU x y)) = w' := by
  have hl := run_call_add (P := Tryz.prog) Tryz.func185 (by kernel_rfl) (by kernel_rfl) (by kernel_rfl) .u64 (by kernel_rfl) (w := w) (a := a) (x := x) (y := y) (s := addU x y) hc hz rfl
  go_enter Tryz.func148, Tryz.ntmps148
  go_wp2_with fail
  go_ret
  exact ⟨rfl, rfl⟩
def bumpV (V : List Int) (i : Nat) (n : Int) : List Int := V.set i (addU (V.getD i 0) n)
theorem u64_at {V : List Int} {i : Nat} (h : i < V.length) : (u64s V)[i]? = some (.int .u64 (V.getD i 0)) := by
  unfold u64s
  rw [List.getElem?_map, List.getD, List.getElem?_eq_getElem h]
  rfl
section
variable {w w' : World} {b g1 c1 g2 m : Nat} {F : Nat → Prop} {V : List Int}
theorem TlB.vlen (h : TlB w b F V g1 c1 g2 m) : V.length = 6 := by have := h.c.ct.len; simpa [u64s] using this
theorem TlB.at_ (h : TlB w b F V g1 c1 g2 m) : TlAt w b F V := ⟨g1, c1, g2, .inr ⟨m, h.fm, h.c, h.mp⟩⟩
theorem row_ne {e e' : TypeId} {k k' n n' c c' g g' : Nat} {F G : Nat → Prop} {xs ys : List Value} (h : Row e k w F (some ⟨g, 0, none⟩) n c xs) (h' : Row e' k' w G (some ⟨g', 0, none⟩) n' c' ys) (he : e ≠ e') : g ≠ g' := by
  intro e1
  subst e1
  obtain ⟨c1, q1, t1⟩ := h.tag rfl
  obtain ⟨c2, q2, t2⟩ := h'.tag rfl
  rw [t1] at t2
  injection t2 with t2
  injection t2 with _ t2 _
  exact he t2
theorem TlB.bump (h : TlB w b F V g1 c1 g2 m) {i : Nat} (hi : i < 6) (v : Int) : TlB (w.setCell ⟨g2, i, none⟩ (.int .u64 v)) b F (V.set i v) g1 c1 g2 m := by
  have h1 : g2 ≠ b := fun e => h.c.ct.ne h.c.st ne_tl2 (by rw [e]; rfl)
  have h2 : g1 ≠ g2 := row_ne h.c.nm h.c.ct (by decide)
  have h3 : m ≠ g2 := fun e => by
    obtain ⟨cur, q, ht⟩ := h.c.ct.tag rfl
    obtain ⟨es, clock, hb, -⟩ := h.mp
    rw [← e, hb] at ht
    injection ht with ht
    cases ht
  refine ⟨⟨h.c.st.other h1 _, h.c.fb, h.c.nm.other (fun e => h2 (by injection e)) _, ?_, fun k hk => by rw [set_size]; exact h.c.lt k hk⟩, h.fm, h.mp.at_ (Below.heap_setCell w _ _ m (fun e => h3 e))⟩
  have := h.c.ct.setAt hi (.int .u64 v)
  unfold u64s at *
  rwa [List.map_set]
end
set_option maxRecDepth 100000 in
set_option maxHeartbeats 1600000 in
theorem tadd_is {w : World} {b i : Nat} {F : Nat → Prop} {V : List Int} {s : ByteArray} (h : TlAt w b F V) (hi : i < 6) (hs : s = tN.getD i eS) (n : Int) :
    Calls Tryz.prog 107 #[.pointer (some ⟨b, 0, none⟩), .string s, .int .u64 n] w fun e w' => e = .returned (.bool true) ∧ TlAt w' b (Gr F w w') (bumpV V i n) ∧ Keep F w w' := by
  have HC := Lib.hid (tcounter_is h hi hs)
  have hlt := h.lt
  have HL := Lib.hid h.lt
  have HF := Lib.hid h.fb
  clear h hs hlt
  go_enter Tryz.func107, Tryz.ntmps107
  go_wp2_with (first
    | (go_at_call 65; refine HC.out.mono ?_; rintro e w1 ⟨g1, c1, g2, m, rfl, hb, hk⟩; obtain ⟨hc, hz⟩ := hb.c.ct.cellAt (u64_at (i := i) (by rw [hb.vlen]; exact hi)); have HB := Lib.hid hb; have HK := Lib.hid hk; clear hb hk)
    | (go_at_call 148; refine (u64add_is hc hz).mono ?_; rintro e w2 ⟨rfl, rfl⟩))
  go_ret
  have hs2 : (w1.setCell ⟨g2, i, none⟩ (.int .u64 (addU (V.getD i 0) n))).heap.size = w1.heap.size := set_size ..
  have hgr : ∀ k, Gr F w w1 k → Gr F w (w1.setCell ⟨g2, i, none⟩ (.int .u64 (addU (V.getD i 0) n))) k := fun k hk => by
    rcases hk with hk | hk
    · exact .inl hk
    · exact .inr ⟨hk.1, by rw [hs2]; exact hk.2⟩
  have hkb : Keep F w w1 := HK.out.mono (fun k hk => by subst hk; exact HF.out)
  refine ⟨rfl, (HB.out.bump hi _).at_.mono hgr (fun k hk => Gr.lt HL.out (by rw [set_size]; exact HK.out.size) k hk), hkb.setCell (p := ⟨g2, i, none⟩) ?_ _⟩
  rcases HB.out.c.ct.in_ g2 rfl with h1 | h1
  · exact .inl h1
  · exact .inr h1.1
end Go.Proofs.YtamfjgioajmnpaaGreatDoor
namespace Go.Proofs.YtamfjgioajmnpaaGreatDoor
open Go.RowKit
set_option linter.unusedVariables false
set_option linter.unusedSimpArgs false

/-- an event: its kind, verb, option, data, whether it was too long, whether it broke off -/
structure EvT where
  kind : Int
  verb : Int
  opt : Int
  data : List Int
  long : Bool
  broken : Bool
deriving DecidableEq
/-- a reader: how far it is, what has come of what is under way, what waits to be told -/
structure RdT where
  st : Int
  verb : Int
  opt : Int
  data : List Int
  sub : List Int
  long : Bool
  out : List EvT
deriving DecidableEq
def RdT.zero : RdT := ⟨0, 0, 0, [], [], false, []⟩
def flushT (r : RdT) : RdT := { r with out := if r.data = [] then r.out else r.out ++ [⟨0, 0, 0, r.data, false, false⟩], data := [] }
def tellT (r : RdT) (e : EvT) : RdT := { flushT r with out := (flushT r).out ++ [e], st := 0 }
def keepT (r : RdT) (b : Int) : RdT := if 256 ≤ r.sub.length then { r with st := 4, long := true } else { r with st := 4, sub := r.sub ++ [b] }
def endT (r : RdT) (broken : Bool) : RdT := { tellT r ⟨3, 0, r.opt, r.sub, r.long, broken⟩ with sub := [], long := false }
def cmdT (r : RdT) (b : Int) : RdT :=
  if b = 255 then { r with data := r.data ++ [b], st := 0 }
  else if b = 250 then { r with st := 3 }
  else if 251 ≤ b ∧ b ≤ 254 then { r with verb := b, st := 2 }
  else tellT r ⟨1, b, 0, [], false, false⟩
def takeT (r : RdT) (b : Int) : RdT :=
  if r.st = 1 then cmdT r b
  else if r.st = 2 then tellT r ⟨2, r.verb, b, [], false, false⟩
  else if r.st = 3 then { r with opt := b, st := 4 }
  else if r.st = 4 then (if b = 255 then { r with st := 5 } else keepT r b)
  else if r.st = 5 then (if b = 255 then keepT r b else if b = 240 then endT r false else cmdT (endT r true) b)
  else if b = 255 then { r with st := 1 } else { r with data := r.data ++ [b] }
def feedT (r : RdT) (p : List Int) : RdT := flushT (p.foldl takeT r)
/-- a reader with nothing under way hears a word of an option -/
theorem take_word {r : RdT} {v o : Int} (h0 : r.st = 0) (hd : r.data = []) (hv : 251 ≤ v ∧ v ≤ 254) : [255, v, o].foldl takeT r = { r with verb := v, out := r.out ++ [⟨2, v, o, [], false, false⟩] } := by
  obtain ⟨st, verb, opt, data, sub, long, out⟩ := r
  simp only at h0 hd
  subst h0 hd
  have h1 : ¬ v = 255 := by omega
  have h2 : ¬ v = 250 := by omega
  simp [takeT, cmdT, tellT, flushT, h1, h2, hv]
def helloL : List Int := [255, 253, 24, 255, 250, 24, 1, 255, 240, 255, 253, 25, 255, 251, 25, 255, 253, 0, 255, 251, 0]
theorem feed_hello : feedT RdT.zero helloL = { RdT.zero with verb := 251, opt := 24, out := [⟨2, 253, 24, [], false, false⟩, ⟨3, 0, 24, [1], false, false⟩, ⟨2, 253, 25, [], false, false⟩, ⟨2, 251, 25, [], false, false⟩, ⟨2, 253, 0, [], false, false⟩, ⟨2, 251, 0, [], false, false⟩] } := by decide
def formL : List Int := [245, 195, 17, 64, 64, 29, 96, 213, 29, 64, 19, 0, 0, 0, 0, 29, 240]
theorem feed_form : feedT { RdT.zero with verb := 251, opt := 24 } (formL ++ [255, 239]) = { RdT.zero with verb := 251, opt := 24, out := [⟨0, 0, 0, formL, false, false⟩, ⟨1, 239, 0, [], false, false⟩] } := by decide
end Go.Proofs.YtamfjgioajmnpaaGreatDoor
