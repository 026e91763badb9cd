/-
  What a page's New, Sign and Code compute. No condition.
-/
import Derived.Test.YthdoighlfoinaaaDoorPage6
namespace Go.Proofs.YthdoighlfoinaaaDoor
open Go.RowKit Go.Maps
set_option linter.unusedVariables false
set_option linter.unusedSimpArgs false

theorem ret_code {a b : Int} {x y : Bool} (h : a = b) (h' : x = y) : Ending.returned (.tuple #[.int .u8 a, .bool x]) = .returned (.tuple #[.int .u8 b, .bool y]) := by rw [h, h']
theorem zero8 (w : World) : (zeroValue 5).run Tryd.prog w = .ok (.int .u8 0) w := by kernel_rfl
set_option maxRecDepth 100000 in
set_option maxHeartbeats 800000 in
theorem sign_at (b : Nat) (k : Int) (hk : isPage k = true) (c : Nat) (hc : c < 256) (w : World) (h : PAt w b k) :
    Calls Tryd.prog 25 #[.pointer (some ⟨b, 0, none⟩), .int .u8 (c : Int)] w fun e w' => e = .returned (.int .i32 (signN k c)) ∧ PAt w' b k ∧ Near b w w' := by
  go_enter Tryd.func25, Tryd.ntmps25
  go_wp2_with (go_at_call 34; refine (built_is b k hk _ h).mono ?_; rintro e w' ⟨rfl, ⟨m, hmb, hp, hmp⟩, hn⟩; have hcs := hp.sg c hc; have hbl := hp.lt)
  go_ret
  exact ⟨rfl, .inr ⟨m, hmb, hp, hmp⟩, hn⟩
/-- a sign's code, 0 if it has none -/
def codeV (k s : Int) : Int := (((codeN k s).getD 0 : Nat) : Int)
set_option maxRecDepth 100000 in
set_option maxHeartbeats 800000 in
theorem code_at (b : Nat) (k : Int) (hk : isPage k = true) (s : Int) (hs : (Lit.int .i32 s).wf = true) (w : World) (h : PAt w b k) :
    Calls Tryd.prog 24 #[.pointer (some ⟨b, 0, none⟩), .int .i32 s] w fun e w' => e = .returned (.tuple #[.int .u8 (codeV k s), .bool (codeN k s).isSome]) ∧ PAt w' b k ∧ Near b w w' := by
  have hnot : ∀ (x : Bool) (w : World), (Op.unary .not (.bool x)).run Tryd.prog w = .ok (.bool (!x)) w := fun _ _ => rfl
  have hkey := keyOf_int_mk Tryd.underlying21 hs
  obtain ⟨hhas, hatk⟩ := mapD_code (k := k) (s := s) hk
  have HAT : Hid (∀ c : Int, (mapD (signN k) 256).atKey (.int .i32 s) (.lit (.int .u8 0)) = .lit (.int .u8 c) → c = codeV k s) := Lib.hid hatk
  clear hatk
  generalize hD : mapD (signN k) 256 = D at *
  cases hcn : (codeN k s).isSome
  · have HV : Hid (codeV k s = 0) := Lib.hid (by unfold codeV; rw [Option.isSome_eq_false_iff, Option.isNone_iff_eq_none] at hcn; rw [hcn]; rfl)
    have hhas2 : Maps.has D (.int .i32 s) = false := hhas.trans hcn
    clear hhas hcn
    go_enter Tryd.func24, Tryd.ntmps24
    go_wp2_with (first
      | (go_at_call 34; refine (built_is b k hk _ h).mono ?_; rintro e w' ⟨rfl, ⟨m, hmb, hp, hmp⟩, hn⟩; have hcs := hp.mp; have hbl := hp.lt; have hmp2 : MapAt w' m D 256 := hD ▸ hmp; have HMP := Lib.hid hmp; clear hmp)
      | (at_lookup; refine wpList_lookup_own_ok_int _ rfl _ _ 72 rfl 21 5 .u8 key32 Tryd.underlying72 Tryd.underlying5 (zero8 _) m 256 D rfl hmp2 _ _ rfl hkey ?_; intro c hat hwc))
    go_ret2
    exact ⟨ret_code HV.out.symm rfl, .inr ⟨m, hmb, hp, HMP.out⟩, hn⟩
  · have hhas2 : Maps.has D (.int .i32 s) = true := hhas.trans hcn
    clear hhas hcn
    go_enter Tryd.func24, Tryd.ntmps24
    go_wp2_with (first
      | (go_at_call 34; refine (built_is b k hk _ h).mono ?_; rintro e w' ⟨rfl, ⟨m, hmb, hp, hmp⟩, hn⟩; have hcs := hp.mp; have hbl := hp.lt; have hmp2 : MapAt w' m D 256 := hD ▸ hmp; have HMP := Lib.hid hmp; clear hmp)
      | (at_lookup; refine wpList_lookup_own_ok_int _ rfl _ _ 72 rfl 21 5 .u8 key32 Tryd.underlying72 Tryd.underlying5 (zero8 _) m 256 D rfl hmp2 _ _ rfl hkey ?_; intro c hat hwc))
    go_ret2
    exact ⟨ret_code (HAT.out c hat) rfl, .inr ⟨m, hmb, hp, HMP.out⟩, hn⟩
def page0 (k : Int) : List Value := .int .i64 k :: .int .u32 0 :: .int .i32 0 :: .int .u32 0 :: (List.replicate 256 (.int .i32 0) ++ [.map none])
theorem zero_page : Tryd.zeroCells74 = (page0 0).toArray := by kernel_rfl
theorem page0_sg (k : Int) (i : Nat) (hi : i < 256) : (page0 k)[4 + i]? = some (.int .i32 0) := by
  rw [show 4 + i = i + 1 + 1 + 1 + 1 by omega]
  unfold page0
  rw [List.getElem?_cons_succ, List.getElem?_cons_succ, List.getElem?_cons_succ, List.getElem?_cons_succ, List.getElem?_append_left (by rw [List.length_replicate]; exact hi), List.getElem?_replicate, if_pos hi]
theorem page0_mp (k : Int) : (page0 k)[260]? = some (.map none) := by
  show (page0 k)[256 + 1 + 1 + 1 + 1]? = _
  unfold page0
  rw [List.getElem?_cons_succ, List.getElem?_cons_succ, List.getElem?_cons_succ, List.getElem?_cons_succ, List.getElem?_append_right (by rw [List.length_replicate]; omega), List.length_replicate]
  rfl
theorem page_new (k : Int) (w : World) (t : TypeId) : PCells (w.alloc (.cells (Tryd.zeroCells74.setIfInBounds 0 (.int .i64 k)) t)) w.heap.size k 0 0 (fun _ => 0) none := by
  have h0 : Tryd.zeroCells74.setIfInBounds 0 (.int .i64 k) = (page0 k).toArray := by
    rw [zero_page, List.setIfInBounds_toArray]
    rfl
  rw [h0]
  have hc : ∀ o u, (page0 k)[o]? = some u → (w.alloc (.cells (page0 k).toArray t)).cell? ⟨w.heap.size, o, none⟩ = some u := fun o u h => by
    rw [World.cell?_alloc_new]
    exact (List.getElem?_toArray ..).trans h
  exact ⟨by simp, hc _ _ rfl, hc _ _ rfl, hc _ _ rfl, fun i hi => hc _ _ (page0_sg k i hi), hc _ _ (page0_mp k), fun i hi => by simp⟩
set_option maxRecDepth 100000 in
theorem new_is (k : Int) (hk : isPage k = true) (w : World) :
    Calls Tryd.prog 18 #[.int .i64 k] w fun e w' => ∃ b, e = .returned (.tuple #[.pointer (some ⟨b, 0, none⟩), .int .i64 0]) ∧ w.heap.size ≤ b ∧ PAt w' b k ∧ Up w w' := by
  have hnot : ∀ (x : Bool) (w : World), (Op.unary .not (.bool x)).run Tryd.prog w = .ok (.bool (!x)) w := fun _ _ => rfl
  go_enter Tryd.func18, Tryd.ntmps18
  go_wp2_with (go_at_call 29; refine (others_is k hk _).mono ?_; rintro e w1 ⟨A, c, rfl, hrd, hnc, hc6, hfar, hu1⟩)
  go_ret2
  exact ⟨_, rfl, hu1.size, .inl (page_new k w1 _), hu1.alloc _⟩
set_option maxRecDepth 100000 in
theorem new_not (k : Int) (hk : isPage k = false) (w : World) :
    Calls Tryd.prog 18 #[.int .i64 k] w fun e w' => e = .returned (.tuple #[.pointer none, .int .i64 5]) ∧ w = w' := by
  have hnot : ∀ (x : Bool) (w : World), (Op.unary .not (.bool x)).run Tryd.prog w = .ok (.bool (!x)) w := fun _ _ => rfl
  go_enter Tryd.func18, Tryd.ntmps18
  go_wp2_with (go_at_call 29; refine (others_not k hk _).mono ?_; rintro e w1 ⟨rfl, rfl⟩)
  go_ret2
  exact ⟨rfl, rfl⟩
set_option maxRecDepth 100000 in
set_option maxHeartbeats 1600000 in
theorem awake01 (w : World) : Calls Tryd.prog 11 #[] w fun e w' => e = .returned (.bool true) ∧ Up w w' := by
  have k1 : isPage 37 = true := rfl
  have k2 : isPage 273 = true := rfl
  have k3 : isPage 1140 = true := rfl
  have v1 : signN 37 193 = 65 := by decide +kernel
  have v2 : codeV 273 228 = 192 := by decide +kernel
  have v3 : (codeN 273 228).isSome = true := by decide +kernel
  have v4 : signN 1140 159 = 8364 := by decide +kernel
  go_enter Tryd.func11, Tryd.ntmps11
  go_wp2_with (go_at_call 18; with_reducible refine (new_is 37 k1 _).mono ?_; rintro e w1 ⟨b1, rfl, hb1, hp1, hu1⟩)
  go_wp2_with (go_at_call 18; with_reducible refine (new_is 273 k2 _).mono ?_; rintro e w2 ⟨b2, rfl, hb2, hp2, hu2⟩)
  go_wp2_with (go_at_call 18; with_reducible refine (new_is 1140 k3 _).mono ?_; rintro e w3 ⟨b3, rfl, hb3, hp3, hu3⟩)
  have hl1 := hp1.lt
  have hl2 := hp2.lt
  have hn12 : b1 ≠ b2 := by omega
  have hn13 : b1 ≠ b3 := by have := hu2.size; omega
  have hn23 : b2 ≠ b3 := by omega
  have ha3 := hp1.up (hu2.trans hu3)
  have hb3' := hp2.up hu3
  have c2 := code_at b2 273 k2 228 (wf_i32 (by omega)) w3 hb3'
  rw [v2, v3] at c2
  have C2 := Lib.hid c2
  have c1 : ∀ w, PAt w b1 37 → Calls Tryd.prog 25 #[.pointer (some ⟨b1, 0, none⟩), .int .u8 193] w fun e w' => e = .returned (.int .i32 65) ∧ PAt w' b1 37 ∧ Near b1 w w' := fun w h => by
    have := sign_at b1 37 k1 193 (by omega) w h
    rw [v1] at this
    exact this
  have c3 : ∀ w, PAt w b3 1140 → Calls Tryd.prog 25 #[.pointer (some ⟨b3, 0, none⟩), .int .u8 159] w fun e w' => e = .returned (.int .i32 8364) ∧ PAt w' b3 1140 ∧ Near b3 w w' := fun w h => by
    have := sign_at b3 1140 k3 159 (by omega) w h
    rw [v4] at this
    exact this
  have C1 := Lib.hid c1
  have C3 := Lib.hid c3
  have HA := Lib.hid ha3
  have HB := Lib.hid hb3'
  have HC := Lib.hid hp3
  have HU := Lib.hid ((hu1.trans hu2).trans hu3)
  have hz1 : w.heap.size ≤ b1 := hb1
  have hz2 : w.heap.size ≤ b2 := by have := hu1.size; omega
  have hz3 : w.heap.size ≤ b3 := by have := hu1.size; have := hu2.size; omega
  clear c1 c2 c3 ha3 hb3' hp1 hp2 hp3 hu1 hu2 hu3 v1 v2 v3 v4
  go_wp2_with (go_at_call 24; with_reducible refine C2.out.mono ?_; rintro e w4 ⟨rfl, hp4, hn4⟩)
  have HP4 := Lib.hid hp4
  have HN4 := Lib.hid hn4
  have a4 := HA.out.near HB.out hn12 hn4
  have c4 := HC.out.near HB.out hn23.symm hn4
  have A4 := Lib.hid a4
  have C4 := Lib.hid c4
  clear hp4 hn4 a4 c4
  go_wp2_with (first | (go_at_call 25; with_reducible refine (C1.out _ A4.out).mono ?_; rintro e w5 ⟨rfl, hp5, hn5⟩) | (go_at_call 25; with_reducible refine (C3.out _ (C4.out.near A4.out hn13.symm hn5)).mono ?_; rintro e w6 ⟨rfl, hp6, hn6⟩))
  go_ret
  refine ⟨rfl, ?_⟩
  refine (((HU.out.keep (E := fun i => i = b2) HN4.out (fun i hi => by subst hi; exact hz2)).keep (E := fun i => i = b1) hn5 (fun i hi => by subst hi; exact hz1)).keep (E := fun i => i = b3) hn6 (fun i hi => by subst hi; exact hz3))
end Go.Proofs.YthdoighlfoinaaaDoor
