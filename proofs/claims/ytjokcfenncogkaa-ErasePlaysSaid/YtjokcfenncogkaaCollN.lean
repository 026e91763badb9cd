/-
  What slices.Collect over ints makes of an iterator (ItN). No condition.
-/
import Derived.Test.YtjokcfenncogkaaListI
import Derived.Test.YtjokcfenncogkaaRf
namespace Go.Proofs.Ytjokcfenncogkaa
open Go.RowKit
set_option linter.unusedVariables false
set_option linter.unusedSimpArgs false
attribute [local go_sem] Oper.semAt_some

theorem Keep.past2 {T N : Nat → Prop} {w W W' : World} (h : Keep T w W) (hk : Keep N W W') (hn : ∀ k, N k → w.heap.size ≤ k ∨ T k) : Keep T w W' :=
  ⟨hk.os.trans h.os, hk.tape.trans h.tape, hk.output.trans h.output, Nat.le_trans h.size hk.size, fun k hlt ht => (hk.block k (by have := h.size; omega) (fun e => by rcases hn k e with h | h; omega; exact ht h)).trans (h.block k hlt ht)⟩
/-- a box that holds the ints that have come; N are others' blocks -/
structure OutB (T : Nat → Prop) (w : World) (B ob : Nat) (N : Nat → Prop) (pre : List Int) (W : World) : Prop where
  up : Keep T w W
  ex : ∃ A n c, W.cell? ⟨ob, 0, none⟩ = some (.slice A n c) ∧ W.frozen? ⟨ob, 0, none⟩ = false ∧ OwnI B W A n c pre ∧ ∀ p, A = some p → ¬ N p.block
  no : ¬ N ob
  nw : ∀ k, N k → w.heap.size ≤ k ∨ T k
  bw : B ≤ W.heap.size
theorem OutB.own {T : Nat → Prop} {w : World} {B ob : Nat} : Own2 (OutB T w B ob) := by
  rintro N N' s W W' ⟨h1, ⟨A, n, c, h2, h3, h4, h5⟩, h6, h7, h8⟩ hk hn
  have zo := cell_lt h2
  refine ⟨h1.past2 hk h7, ⟨A, n, c, ((hk.at_ ob zo h6).1 0).trans h2, ((hk.at_ ob zo h6).2 0).trans h3, h4.held hk h5, fun p hp h => ?_⟩, fun h => ?_, fun k h => ?_, by have := hk.size; omega⟩
  · rcases hn _ h with h | h
    · exact h5 p hp h
    · have := (h4.at_ p hp).2; omega
  · rcases hn _ h with h | h
    · exact h6 h
    · have : ob < W.heap.size := zo; omega
  · rcases hn _ h with h | h
    · exact h7 k h
    · have := h1.size; left; omega
theorem OutB.fin {T : Nat → Prop} {w : World} {B ob : Nat} {N : Nat → Prop} {pre : List Int} {W : World} (h : OutB T w B ob N pre W) : ∃ A c, W.cell? ⟨ob, 0, none⟩ = some (.slice A pre.length c) ∧ OwnI B W A pre.length c pre := by
  obtain ⟨A, n, c, h2, h3, h4, h5⟩ := h.ex
  have := h4.len
  subst this
  exact ⟨A, c, h2, h4⟩
/-- what a round's append leaves -/
theorem OutB.push {T : Nat → Prop} {v : Value} {w : World} {B ob : Nat} {N : Nat → Prop} {pre : List Int} {x : Int} {W W' : World} {A A2 : Option Addr} {n c2 : Nat} {r : Option Nat} (hi : OutB T w B ob N pre W) (hz : ∀ k, N k → k < W.heap.size) (hA : ∀ p, A = some p → ¬ N p.block)
    (hown : OwnI B W' A2 (n + 1) c2 (pre ++ [x])) (hg : (W.alloc (.cells #[.int .i64 x] 3)).grownBy W' r) (hr' : ∀ k, r = some k → ∃ p, A = some p ∧ p.block = k) (hbl : Below B W W') (hob : ob < B) (hwB : w.heap.size ≤ B)
    (hp : ∀ p, A2 = some p → (∃ p', A = some p' ∧ p.block = p'.block) ∨ W.heap.size < p.block) (hc : W'.cell? ⟨ob, 0, none⟩ = some v) (hf : W'.frozen? ⟨ob, 0, none⟩ = false) (hwo : T ob ∨ w.heap.size ≤ ob) :
    Held N W (W'.setCell ⟨ob, 0, none⟩ (.slice A2 (n + 1) c2)) ∧ OutB T w B ob N (pre ++ [x]) (W'.setCell ⟨ob, 0, none⟩ (.slice A2 (n + 1) c2)) := by
  have hH : Held N W (W'.setCell ⟨ob, 0, none⟩ (.slice A2 (n + 1) c2)) := fun k hk => by
    have hkz := hz k hk
    have h1 : k ≠ ob := fun e => hi.no (e ▸ hk)
    rw [Below.heap_setCell W' ⟨ob, 0, none⟩ _ k h1]
    rw [hg.block k (by simp; omega) (fun e => by
      obtain ⟨p, hp1, hp2⟩ := hr' k e.symm
      exact hA p hp1 (hp2 ▸ hk))]
    exact Below.heap_alloc _ _ _ hkz
  refine ⟨hH, ⟨?_, ⟨A2, n + 1, c2, World.cell?_setCell_same (h := hc) .., by rw [World.frozen?_setCell]; exact hf, hown.far (by exact hob) _, fun p hp' h => ?_⟩, hi.no, hi.nw, by have := hbl.size; have := hi.bw; simp [World.setCell]; omega⟩⟩
  · exact (hi.up.far (hbl.mono hwB)).setCell hwo _
  · rcases hp p hp' with ⟨p', h1, h2⟩ | h1
    · exact hA p' h1 (h2 ▸ h)
    · have := hz _ h; omega

set_option maxRecDepth 100000 in
set_option maxHeartbeats 3200000 in
theorem appendSeq_n {gf : Nat} {lb : Array Value} {T : Nat → Prop} {V0 V : World → Prop} {G : List Int → Int → World → Prop} {S Sp : List Int → Prop} {w : World} (L : List Int) (hE : ∀ args w, (callFunc gf args).run Try.prog w = .ok (.enter gf args) w) (hn : L.length ≤ 65535)
    (hseq : ItN Try.prog gf lb (fun x : Int => #[.int .i64 x]) T V0 V G S Sp) (hT : ∀ k, T k → k < w.heap.size) (hV0 : ∀ W, Up w W → V0 W) (hV : ∀ W, Keep T w W → V W) (hG : ∀ pre x W, G pre x W → pre ++ [x] <+: L) (hS : ∀ xs, S xs → xs = L) :
    Calls Try.prog 126 #[.slice none 0 0, .func (.func gf) #[] lb] w fun e w' => ∃ A c, e = .returned (.slice A L.length c) ∧ OwnI w.heap.size w' A L.length c L ∧ Keep T w w' := by
  obtain ⟨i0, hi, hz0, hz1, hz2⟩ := info_parts info_i64
  refine (callsIn_wide (n := 9)).1 ?_
  refine callsIn_of_wp_marks Try.func126 rfl trivial ?_ rfl
  simp only [Try.ntmps126, List.size_toArray, List.length_cons, List.length_nil, Nat.reduceAdd, Nat.reduceSub, Array.replicate_succ, Array.replicate_zero, List.push_toArray, List.append_toArray, List.nil_append, List.cons_append]
  refine wpIn_wide.2 ?_
  go_wp2
  refine wpIn_wide.1 (range_n (n := 9) (gf := gf) (lb := lb) rfl hE hseq (fun _ => rfl) T (fun k hk => by have := hT k hk; simp; omega) (fun _ h => h) (fun W hu => hV0 W (((Up.refl w).alloc _).trans hu))
    (OutB T w (w.heap.size + 1) w.heap.size) (fun _ _ _ _ => False) OutB.own (fun _ _ _ _ _ _ h _ _ => h) (fun N pre W h => hV W h.up) ?start
    (fun pre x a' N W => pre ++ [x] <+: L ∧ a' = { tmps := #[.slice none 0 0, .func (.func gf) #[] lb, .pointer (some ⟨w.heap.size, 0, none⟩), undef, .slice none 0 0, .int .i64 x, .func (.func gf) #[] lb, .int .i64 x, undef, undef, undef, undef, undef], defers := [] })
    (fun _ _ _ _ _ _ _ _ h _ _ => h) ?assign ?body ?done ?stop)
  case start => exact ⟨Keep.of_up ((Up.refl w).alloc _), ⟨none, 0, 0, by simp, by simp, OwnI.nil _ _, fun p hp => by cases hp⟩, fun h => by have := hT _ h; omega, fun k h => .inr h, by simp⟩
  case assign =>
    intro l N pre x W K hz hI hGx hK
    gi_wp2
    exact hK _ _ (Held.refl _ _) hI ⟨hG _ _ _ hGx, rfl⟩
  case body =>
    rintro l N pre x a' W hl hr hz hI ⟨hGx, rfl⟩
    have HI := Lib.hid hI
    obtain ⟨A, n, c, h1, h2, h3, h5⟩ := hI.ex
    have hlen : pre.length + 1 ≤ L.length := by have := hGx.length_le; simpa using this
    have hb0 : w.heap.size < W.heap.size := cell_lt h1
    have hnl := h3.len
    have hn5 : n ≤ 65535 := by omega
    have hbw := hI.bw
    have H3 := Lib.hid h3
    have HZ := Lib.hid hz
    have H5 := Lib.hid h5
    have HNE := Lib.hid (show (Value.slice A n c).ownBlock ≠ some w.heap.size from fun e => by have := own_bd h3.own _ e; omega)
    clear h3 h5 hz hI hGx hr hl hnl
    refine wpIn_block ?_
    refine in_region (by kernel_rfl) (by intro _ _ h; exact h) ?_
    have HLT := Lib.hid (show w.heap.size < (W.alloc (.cells #[.int .i64 x] 3)).heap.size by simp; omega)
    have k1 : Hid ((W.alloc (.cells #[.int .i64 x] 3)).cell? ⟨w.heap.size, 0, none⟩ = some (.slice A n c)) := by
      show (W.alloc (.cells #[.int .i64 x] 3)).cell? ⟨w.heap.size, 0, none⟩ = some (.slice A n c)
      rw [World.cell?_alloc_lt W _ ⟨w.heap.size, 0, none⟩ hb0]; exact h1
    have k2 : Hid ((W.alloc (.cells #[.int .i64 x] 3)).frozen? ⟨w.heap.size, 0, none⟩ = false) := by
      show (W.alloc (.cells #[.int .i64 x] 3)).frozen? ⟨w.heap.size, 0, none⟩ = false
      exact ((((Up.refl W).alloc _).at_ w.heap.size hb0).2 0).trans h2
    go_wp2_with (at_builtin; refine wpList_push i0 hi hz0 hz1 hz2 Try.underlying50 rfl (.tmp 8) (.tmp 10) rfl W x rfl W.heap.size rfl (w.heap.size + 1) A n c pre rfl rfl H3.out hn5 hbw ?_; intro A1 c1 w1 hown1 hg1 hbl1 hp1; obtain ⟨gc, gz⟩ := grown_at hg1 w.heap.size HLT.out HNE.out; have gc1 := (gc 0).trans k1.out; have gz1 := (gz 0).trans k2.out; have HO := Lib.hid hown1; have HG1 := Lib.hid hg1; have HB1 := Lib.hid hbl1; have HP1 := Lib.hid hp1; clear hown1 hg1 hbl1 hp1 gc gz)
    exact OutB.push (r := (Value.slice A n c).ownBlock) HI.out HZ.out H5.out HO.out HG1.out (fun k hk => by
      cases A with
      | none => simp [Value.ownBlock] at hk
      | some p => simp [Value.ownBlock] at hk; exact ⟨p, rfl, hk⟩) HB1.out (by omega) (by omega) HP1.out gc1 gz1 (.inr (Nat.le_refl _))
  case done =>
    rintro Dd N xs W hD hND hN0 hSx hI hK
    have HI := Lib.hid hI
    obtain ⟨A, c, h2, h4⟩ := hI.fin
    obtain rfl := hS _ hSx
    have HK := Lib.hid hK
    have HND := Lib.hid hND
    have zo := cell_lt h2
    clear hI hK hND hSx h4
    go_wp2
    refine ⟨by simp, .inl ⟨_, _, rfl, run_takeDeferred HK.out, ?_⟩⟩
    have hfin := OutB.own N N xs W (W.putObj Dd (.deferred none)) HI.out (keep_put _ HND.out) (fun k hk => .inl hk)
    obtain ⟨A', c', h2', h4'⟩ := hfin.fin
    have e : A' = A ∧ c' = c := by
      have := (keep_put (N := fun k => k = Dd) (W := W) (l := Dd) (.deferred none) rfl).at_ w.heap.size zo (fun e => HI.out.no (e ▸ HND.out))
      have h := (this.1 0).symm.trans h2'
      rw [h2] at h
      injection h with h
      injection h with h1 h2 h3
      exact ⟨h1.symm, h3.symm⟩
    obtain ⟨rfl, rfl⟩ := e
    exact ⟨_, results_tmp rfl _ _ _, A', c', rfl, h4'.low (by omega), hfin.up⟩
  case stop =>
    rintro Dd N c pre W _ _ _ _ h _
    exact h.elim
set_option maxHeartbeats 1600000 in
theorem collect_n {gf : Nat} {lb : Array Value} {T : Nat → Prop} {V0 V : World → Prop} {G : List Int → Int → World → Prop} {S Sp : List Int → Prop} {w : World} (L : List Int) (hE : ∀ args w, (callFunc gf args).run Try.prog w = .ok (.enter gf args) w) (hn : L.length ≤ 65535)
    (hseq : ItN Try.prog gf lb (fun x : Int => #[.int .i64 x]) T V0 V G S Sp) (hT : ∀ k, T k → k < w.heap.size) (hV0 : ∀ W, Up w W → V0 W) (hV : ∀ W, Keep T w W → V W) (hG : ∀ pre x W, G pre x W → pre ++ [x] <+: L) (hS : ∀ xs, S xs → xs = L) :
    Calls Try.prog 55 #[.func (.func gf) #[] lb] w fun e w' => ∃ A c, e = .returned (.slice A L.length c) ∧ OwnI w.heap.size w' A L.length c L ∧ Keep T w w' := by
  go_enter Try.func55, Try.ntmps55
  go_wp2_with fail
  refine (appendSeq_n L hE hn hseq hT hV0 hV hG hS).mono ?_
  rintro e w' ⟨A, c, rfl, h1, h2⟩
  have H1 := Lib.hid h1
  have H2 := Lib.hid h2
  clear h1 h2
  go_wp2_with fail
  go_ret
  exact ⟨A, c, rfl, H1.out, H2.out⟩
end Go.Proofs.Ytjokcfenncogkaa
