/-
  What slices.AppendSeq and Collect over ints make of an iterator. No condition.
-/
import Derived.Test.YtjokcfenncogkaaIter
import Derived.Test.YtjokcfenncogkaaBytes
namespace Go.Proofs.Ytjokcfenncogkaa
open Go.RowKit
set_option linter.unusedVariables false
set_option linter.unusedSimpArgs false
attribute [local go_sem] Oper.semAt_some

def ns (l : List Int) : List Value := l.map (Value.int .i64)
theorem ns_len (l : List Int) : (ns l).length = l.length := by simp [ns]
theorem ns_snoc (l : List Int) (x : Int) : ns (l ++ [x]) = ns l ++ [.int .i64 x] := by simp [ns]
theorem one_i64 (l : List Int) : ∀ u ∈ ns l, u.oneCell' = true := by
  intro u hu
  simp only [ns, List.mem_map] at hu
  obtain ⟨x, _, rfl⟩ := hu
  rfl
theorem info_i64 : (Try.prog.info? 3).map (fun i => (i.zero, i.size, i.bytes)) = some (some (.int .i64 0), 1, 8) := by kernel_rfl
theorem Calm.keep {B : Nat} {T : Nat → Prop} {w x y : World} (h : Calm B T x y) (hk : Keep T w x) (hw : w.heap.size ≤ B) : Keep T w y :=
  ⟨h.os.trans hk.os, h.tape.trans hk.tape, h.output.trans hk.output, Nat.le_trans hk.size h.size, fun k hlt ht => by
    have h1 := hk.block k hlt ht
    have hlt' : k < x.heap.size := by have := hk.size; omega
    have ho : x.heap[k]? = some x.heap[k] := Array.getElem?_eq_getElem hlt'
    rw [← h1, ho]
    exact h.same k _ ho ht (.inr (by omega))⟩
/-- what AppendSeq's box holds once these have come -/
def SeqI (w : World) (T : Nat → Prop) (e : TypeId) (enc : Int → Value) (pre : List Int) (W : World) : Prop :=
  ∃ A c, W.cell? ⟨w.heap.size, 0, none⟩ = some (.slice A pre.length c) ∧ W.frozen? ⟨w.heap.size, 0, none⟩ = false ∧ W.ownsRow (w.heap.size + 1) e 1 (.slice A pre.length c) pre.length (pre.map enc) ∧ pre.length ≤ c ∧ c ≤ maxLen ∧ Keep T w W
theorem seqI_still {w : World} {T : Nat → Prop} {e : TypeId} {enc : Int → Value} {B : Nat} (hT : ∀ k, T k → k < w.heap.size) (hB : w.heap.size ≤ B) : Still (Calm B T) (SeqI w T e enc) := by
  rintro pre A A' ⟨a, c, h1, h2, h3, h4, h5, h6⟩ hc
  exact ⟨a, c, hc.cell h1 (fun ht => by have := hT _ ht; omega), (hc.frozen h1 (fun ht => by have := hT _ ht; omega)).trans h2, hc.own h3 (fun k ht => by have := hT k ht; omega), h4, h5, hc.keep h6 hB⟩

set_option maxHeartbeats 1600000 in
theorem appendSeq_i64 {gf : Nat} {lb : Array Value} {T D : Nat → Prop} {w : World} (L : List Int) (hE : ∀ args w, (callFunc gf args).run Try.prog w = .ok (.enter gf args) w)
    (hT : ∀ k, T k → k < w.heap.size) (hD : ∀ k, D k → k < w.heap.size) (hn : L.length ≤ 65536)
    (hseq : ItFor Try.prog gf lb (fun x : Int => #[.int .i64 x]) T D (fun pre x _ => pre ++ [x] <+: L) (· = L) (· <+: L) w) :
    Calls Try.prog 126 #[.slice none 0 0, .func (.func gf) #[] lb] w fun e w' => ∃ A c, e = .returned (.slice A L.length c) ∧ w'.ownsRow w.heap.size 3 1 (.slice A L.length c) L.length (ns L) ∧ L.length ≤ c ∧ c ≤ maxLen ∧ Keep T w w' := by
  obtain ⟨i0, hi, hz0, hz1, hz2⟩ := info_parts info_i64
  refine (callsIn_wide (n := 9)).1 ?_
  refine callsIn_of_wp_marks Try.func126 rfl trivial ?_ rfl
  simp only [Try.ntmps126, List.size_toArray, List.length_cons, List.length_nil, Nat.reduceAdd, Nat.reduceSub, Array.replicate_succ, Array.replicate_zero, List.push_toArray, List.append_toArray, List.nil_append, List.cons_append]
  refine wpIn_wide.2 ?_
  go_wp2
  refine wpIn_wide.1 (range_it (n := 9) (gf := gf) (lb := lb) rfl hE (hseq 8 _ (fun k => k = w.heap.size) ((Up.refl w).alloc _) (fun k hk e => by have := hD k hk; omega)) (fun k hk => by have := hT k hk; simp; omega) (fun _ => rfl)
    (SeqI w T 3 (Value.int .i64)) (fun _ _ _ => False) (seqI_still hT (by simp)) (fun _ _ _ _ h _ => h) ?start
    (fun pre x a' W => pre ++ [x] <+: L ∧ a' = { tmps := #[.slice none 0 0, .func (.func gf) #[] lb, .pointer (some ⟨w.heap.size, 0, none⟩), undef, .slice none 0 0, .int .i64 x, .func (.func gf) #[] lb, .int .i64 x, undef, undef, undef, undef, undef], defers := [] })
    (fun _ _ _ _ _ _ h _ => h) ?assign ?body ?done ?stop)
  case start => exact ⟨none, 0, by simp, by simp, ⟨rfl, .inl ⟨rfl, rfl⟩⟩, by simp, by simp [maxLen], Keep.of_up ((Up.refl w).alloc _)⟩
  case assign =>
    intro l pre x W K hI hG hK
    gi_wp2
    exact hK _ _ (KpR.refl _ _ _ _) hI ⟨hG, rfl⟩
  case body =>
    rintro l pre x a' W hl hr ⟨A, c, h1, h2, h3, h4, h5, h6⟩ ⟨hG, rfl⟩
    have hlen : pre.length + 1 ≤ L.length := by have := hG.length_le; simpa using this
    have hz := h6.size
    have hb0 : w.heap.size < W.heap.size := cell_lt h1
    have H3 := Lib.hid h3
    have H6 := Lib.hid h6
    have HG := Lib.hid hG
    clear h3 h6 hG hr hl
    obtain ⟨m, hm⟩ : ∃ m, pre.length = m := ⟨_, rfl⟩
    have HM := Lib.hid hm
    rw [hm] at h1 H3 hlen h4
    clear hm
    refine wpIn_block ?_
    refine in_region (by kernel_rfl) (by intro _ _ h; exact h) ?_
    have q1 : m + 1 ≤ maxLen := by simp [maxLen]; omega
    have q2 : (m + 1) * 8 ≤ 140737488355328 := by omega
    have q3 : w.heap.size + 1 ≤ (W.alloc (.cells #[.int .i64 x] 3)).heap.size := by simp; omega
    have Q1 := Lib.hid q1
    have Q2 := Lib.hid q2
    have Q3 := Lib.hid q3
    clear q1 q2 q3
    have hne : Hid ((Value.slice A m c).ownBlock ≠ some w.heap.size) := fun e => by
      have := own_bd H3.out _ e
      omega
    have k1 : Hid ((W.alloc (.cells #[.int .i64 x] 3)).cell? ⟨w.heap.size, 0, none⟩ = some (.slice A m c)) := by
      show (W.alloc (.cells #[.int .i64 x] 3)).cell? ⟨w.heap.size, 0, none⟩ = some (.slice A m c)
      rw [World.cell?_alloc_lt W _ ⟨w.heap.size, 0, none⟩ hb0]; exact h1
    have k2 : Hid ((W.alloc (.cells #[.int .i64 x] 3)).frozen? ⟨w.heap.size, 0, none⟩ = false) := by
      show (W.alloc (.cells #[.int .i64 x] 3)).frozen? ⟨w.heap.size, 0, none⟩ = false
      exact ((((Up.refl W).alloc _).at_ w.heap.size hb0).2 0).trans h2
    have hlt2 : w.heap.size < (W.alloc (.cells #[.int .i64 x] 3)).heap.size := by simp; omega
    have HLT := Lib.hid hlt2
    clear hlt2
    go_wp2_with (at_builtin; refine wpList_app _ rfl (.tmp 8) (.tmp 10) 50 rfl (w.heap.size + 1) 3 i0 _ 1 8 Try.underlying50 hi hz0 hz1 hz2 rfl (by decide) A m c (pre.map (Value.int .i64)) rfl (H3.out.alloc _) (W.heap.size + 1) (some ⟨W.heap.size, 0, none⟩) 1 1 [.int .i64 x] rfl (reads_at W W.heap.size 1 1 #[.int .i64 x] _ rfl rfl) (one_i64 [x]) Q1.out Q2.out Q3.out ?_; intro A1 c1 w1 hown1 hg1 hle1 hmx1 hbl1; obtain ⟨gc, gz⟩ := grown_at hg1 w.heap.size HLT.out hne.out; have gc1 := (gc 0).trans k1.out; have gz1 := (gz 0).trans k2.out; have HO := Lib.hid hown1; have HG1 := Lib.hid hg1; have HB1 := Lib.hid hbl1; clear hown1 hg1 hbl1 gc gz)
    have hk : KpR (w.heap.size + 1) (w.heap.size + 1) (fun k => k = w.heap.size) W (w1.setCell ⟨w.heap.size, 0, none⟩ (.slice A1 (m + 1) c1)) :=
      ((KpR.of_up ((Up.refl W).alloc (.cells #[.int .i64 x] 3)) (by omega)).trans (KpR.grown HG1.out (by simp; omega) (own_cells (H3.out.alloc (.cells #[.int .i64 x] 3))))).trans (KpR.setCell (.inl rfl) gc1)
    have hkk : Keep T w (w1.setCell ⟨w.heap.size, 0, none⟩ (.slice A1 (m + 1) c1)) := by
      have b1 : Below w.heap.size W (W.alloc (.cells #[.int .i64 x] 3)) := (Below.refl w.heap.size W).alloc (by omega) _
      have b2 : Below w.heap.size (W.alloc (.cells #[.int .i64 x] 3)) w1 := HB1.out.mono (Nat.le_succ _)
      exact H6.out.far ((b1.trans b2).setCell (p := ⟨w.heap.size, 0, none⟩) (Nat.le_refl _) _)
    have hl1 : (pre ++ [x]).length = m + 1 := by have := HM.out; simp [this]
    refine ⟨by simpa using hk, ?_⟩
    unfold SeqI
    rw [hl1, List.map_append]
    exact ⟨A1, c1, World.cell?_setCell_same (h := gc1) .., by rw [World.frozen?_setCell]; exact gz1, own_far HO.out (by simp) _, hle1, hmx1, hkk⟩
  case done =>
    rintro Dd xs W hD2 rfl ⟨A, c, h1, h2, h3, h4, h5, h6⟩ hK
    have H3 := Lib.hid h3
    have H6 := Lib.hid h6
    clear h3 h6
    go_wp2
    have hc : Calm (w.heap.size + 1) T W (W.putObj Dd (.deferred none)) := Calm.putObj _ (by simpa using hD2) hK rfl
    refine ⟨by simp, .inl ⟨_, _, rfl, run_takeDeferred hK, ?_⟩⟩
    exact ⟨_, results_tmp rfl _ _ _, A, c, rfl, own_base (hc.own H3.out (fun k ht => by have := hT k ht; omega)) (by omega), h4, h5, hc.keep H6.out (by omega)⟩
  case stop =>
    rintro Dd c pre W _ _ h _
    exact h.elim
set_option maxHeartbeats 1600000 in
theorem collect_i64 {gf : Nat} {lb : Array Value} {T D : Nat → Prop} {w : World} (L : List Int) (hE : ∀ args w, (callFunc gf args).run Try.prog w = .ok (.enter gf args) w)
    (hT : ∀ k, T k → k < w.heap.size) (hD : ∀ k, D k → k < w.heap.size) (hn : L.length ≤ 65536)
    (hseq : ItFor Try.prog gf lb (fun x : Int => #[.int .i64 x]) T D (fun pre x _ => pre ++ [x] <+: L) (· = L) (· <+: L) w) :
    Calls Try.prog 55 #[.func (.func gf) #[] lb] w fun e w' => ∃ A c, e = .returned (.slice A L.length c) ∧ w'.ownsRow w.heap.size 3 1 (.slice A L.length c) L.length (ns L) ∧ L.length ≤ c ∧ c ≤ maxLen ∧ Keep T w w' := by
  go_enter Try.func55, Try.ntmps55
  go_wp2_with fail
  refine (appendSeq_i64 L hE hT hD hn hseq).mono ?_
  rintro e w' ⟨A, c, rfl, h1, h2, h3, h4⟩
  have H1 := Lib.hid h1
  have H4 := Lib.hid h4
  clear h1 h4
  go_wp2_with fail
  go_ret
  exact ⟨A, c, rfl, H1.out, h2, h3, H4.out⟩
end Go.Proofs.Ytjokcfenncogkaa
