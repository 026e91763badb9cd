/-
slices.pdqsortOrdered and Sort of at most twelve strings. Conditions: a row of one's own.
slices.Values, AppendSeq, Collect, Clone, Sorted over strings. No condition but few strings.
slices.Sorted, Clone, Compact over strings. No condition but few strings.
A tally as it lies; tally.New of a terminal's six names. No condition.
-/
import Derived.Test.YtamfjgioajmnpaaGreatDoorJa23
import Derived.Test.YtamfjgioajmnpaaGreatDoorJa8
import Derived.Test.YtamfjgioajmnpaaGreatDoorJa22
namespace Go.Proofs.YtamfjgioajmnpaaGreatDoor
open Go.RowKit
set_option linter.unusedVariables false
set_option linter.unusedSimpArgs false

set_option maxRecDepth 100000 in
set_option maxHeartbeats 3200000 in
theorem pdq_is {w : World} {F : Nat → Prop} {g n c : Nat} {L : List ByteArray} (h : Row 9 1 w F (some ⟨g, 0, none⟩) n c (strs L)) (hn : n ≤ 12) (h0 : 1 ≤ n) (k : Int) :
    Calls Tryz.prog 268 #[.slice (some ⟨g, 0, none⟩) n c, .int .i64 0, .int .i64 (n : Int), .int .i64 k] w fun e w' => e = .returned (.tuple #[]) ∧ Row 9 1 w' F (some ⟨g, 0, none⟩) n c (strs (insN L (n - 1))) ∧ Keep (fun k => k = g) w w' := by
  have HIS := Lib.hid (insort_is h (by omega) h0)
  have hni : (n : Int) ≤ 12 := by omega
  have hnp : (0 : Int) ≤ (n : Int) := by omega
  clear h
  go_enter Tryz.func268, Tryz.ntmps268
  go_wp2_with fail
  refine wp_loop_rounds 1 ?_
  rw [rounds_succ]
  go_wp2_with (go_at_call 316; refine HIS.out.mono ?_; rintro e w' ⟨rfl, hr, hk⟩; have HR := Lib.hid hr; have HK := Lib.hid hk; clear hr hk)
  refine bodyPost_ret (results_none rfl _ _ _) rfl ?_
  exact ⟨rfl, HR.out, HK.out⟩
set_option maxRecDepth 100000 in
theorem len64_is (n : Nat) (h : n ≤ 12) (w : World) : Calls Tryz.prog 326 #[.int .u64 (n : Int)] w fun e w' => (∃ k, e = .returned (.int .i64 k)) ∧ w = w' := by
  obtain rfl | rfl | rfl | rfl | rfl | rfl | rfl | rfl | rfl | rfl | rfl | rfl | rfl : n = 0 ∨ n = 1 ∨ n = 2 ∨ n = 3 ∨ n = 4 ∨ n = 5 ∨ n = 6 ∨ n = 7 ∨ n = 8 ∨ n = 9 ∨ n = 10 ∨ n = 11 ∨ n = 12 := by omega
  all_goals
    go_enter Tryz.func326, Tryz.ntmps326
    go_wp2_with fail
    go_ret
    exact ⟨⟨_, rfl⟩, rfl⟩
set_option maxRecDepth 100000 in
theorem blen_is (n : Nat) (h : n ≤ 12) (w : World) : Calls Tryz.prog 269 #[.int .u64 (n : Int)] w fun e w' => (∃ k, e = .returned (.int .i64 k)) ∧ w = w' := by
  have HL := Lib.hid (len64_is n h)
  go_enter Tryz.func269, Tryz.ntmps269
  go_wp2_with (go_at_call 326; refine (HL.out _).mono ?_; rintro e w' ⟨⟨k, rfl⟩, rfl⟩)
  go_ret
  exact ⟨⟨_, rfl⟩, rfl⟩
set_option maxRecDepth 100000 in
set_option maxHeartbeats 3200000 in
theorem sort_is {w : World} {F : Nat → Prop} {g n c : Nat} {L : List ByteArray} (h : Row 9 1 w F (some ⟨g, 0, none⟩) n c (strs L)) (hn : n ≤ 12) (h0 : 1 ≤ n) :
    Calls Tryz.prog 220 #[.slice (some ⟨g, 0, none⟩) n c] w fun e w' => e = .returned (.tuple #[]) ∧ Row 9 1 w' F (some ⟨g, 0, none⟩) n c (strs (insN L (n - 1))) ∧ Keep (fun k => k = g) w w' := by
  have HPD := Lib.hid (fun k => pdq_is h hn h0 k)
  have hni : (n : Int) ≤ 12 := by omega
  have hnp : (0 : Int) ≤ (n : Int) := by omega
  clear h
  go_enter Tryz.func220, Tryz.ntmps220
  have HBL := Lib.hid (blen_is n hn)
  go_wp2_with (first | (go_at_call 269; refine (HBL.out _).mono ?_; rintro e w' ⟨⟨k, rfl⟩, rfl⟩) | (go_at_call 268; refine (HPD.out _).mono ?_; rintro e w' ⟨rfl, hr, hk⟩; have HR := Lib.hid hr; have HK := Lib.hid hk; clear hr hk))
  go_end0
  exact ⟨rfl, HR.out, HK.out⟩
end Go.Proofs.YtamfjgioajmnpaaGreatDoor
namespace Go.Proofs.YtamfjgioajmnpaaGreatDoor
open Go.RowKit
set_option linter.unusedVariables false
set_option linter.unusedSimpArgs false
attribute [local go_sem] Oper.semAt_some

theorem info_str : (Tryz.prog.info? 9).map (fun i => (i.zero, i.size, i.bytes)) = some (some (.string ⟨#[]⟩), 1, 16) := by kernel_rfl
theorem strs_app (L M : List ByteArray) : strs (L ++ M) = strs L ++ strs M := by simp [strs]
theorem one_str (L : List ByteArray) : ∀ u ∈ strs L, u.oneCell' = true := by
  intro u hu
  simp only [strs, List.mem_map] at hu
  obtain ⟨x, -, rfl⟩ := hu
  rfl
theorem Calm.keepS {B : Nat} {T : Nat → Prop} {w x y : World} (h : Calm B T x y) (hk : Keep T w x) (hw : w.heap.size ≤ B) : Keep T w y :=
  ⟨h.os.trans hk.os, h.tape.trans hk.tape, h.output.trans hk.output, Nat.le_trans hk.size h.size, fun k hlt ht => by
    have h1 := hk.block k hlt ht
    have hlt' : k < x.heap.size := by have := hk.size; omega
    have ho : x.heap[k]? = some x.heap[k] := Array.getElem?_eq_getElem hlt'
    rw [← h1, ho]
    exact h.same k _ ho ht (.inr (by omega))⟩
/-- what AppendSeq's box holds once these have come -/
def SeqS (w : World) (T : Nat → Prop) (e : TypeId) (pre : List ByteArray) (W : World) : Prop :=
  ∃ A c, W.cell? ⟨w.heap.size, 0, none⟩ = some (.slice A pre.length c) ∧ W.frozen? ⟨w.heap.size, 0, none⟩ = false ∧ W.ownsRow (w.heap.size + 1) e 1 (.slice A pre.length c) pre.length (strs pre) ∧ pre.length ≤ c ∧ c ≤ maxLen ∧ Keep T w W
theorem seqS_still {w : World} {T : Nat → Prop} {e : TypeId} {B : Nat} (hT : ∀ k, T k → k < w.heap.size) (hB : w.heap.size ≤ B) : Still (Calm B T) (SeqS w T e) := by
  rintro pre A A' ⟨a, c, h1, h2, h3, h4, h5, h6⟩ hc
  exact ⟨a, c, hc.cell h1 (fun ht => by have := hT _ ht; omega), (hc.frozen h1 (fun ht => by have := hT _ ht; omega)).trans h2, hc.own h3 (fun k ht => by have := hT k ht; omega), h4, h5, hc.keepS h6 hB⟩

set_option maxRecDepth 100000 in
set_option maxHeartbeats 1600000 in
theorem appendSeq_str {gf : Nat} {lb : Array Value} {T D : Nat → Prop} {w : World} (L : List ByteArray) (hE : ∀ args w, (callFunc gf args).run Tryz.prog w = .ok (.enter gf args) w)
    (hT : ∀ k, T k → k < w.heap.size) (hD : ∀ k, D k → k < w.heap.size) (hn : L.length ≤ 65536)
    (hseq : ItFor Tryz.prog gf lb (fun x : ByteArray => #[.string x]) T D (fun pre x _ => pre ++ [x] <+: L) (· = L) (· <+: L) w) :
    Calls Tryz.prog 267 #[.slice none 0 0, .func (.func gf) #[] lb] w fun e w' => ∃ A c, e = .returned (.slice A L.length c) ∧ w'.ownsRow w.heap.size 9 1 (.slice A L.length c) L.length (strs L) ∧ L.length ≤ c ∧ c ≤ maxLen ∧ Keep T w w' := by
  obtain ⟨i0, hi, hz0, hz1, hz2⟩ := info_parts info_str
  refine (callsIn_wide (n := 9)).1 ?_
  refine callsIn_of_wp_marks Tryz.func267 rfl trivial ?_ rfl
  simp only [Tryz.ntmps267, List.size_toArray, List.length_cons, List.length_nil, Nat.reduceAdd, Nat.reduceSub, Array.replicate_succ, Array.replicate_zero, List.push_toArray, List.append_toArray, List.nil_append, List.cons_append]
  refine wpIn_wide.2 ?_
  go_wp2
  refine wpIn_wide.1 (range_it (n := 9) (gf := gf) (lb := lb) rfl hE (hseq 8 _ (fun k => k = w.heap.size) ((Up.refl w).alloc _) (fun k hk e => by have := hD k hk; omega)) (fun k hk => by have := hT k hk; simp; omega) (fun _ => rfl)
    (SeqS w T 9) (fun _ _ _ => False) (seqS_still hT (by simp)) (fun _ _ _ _ h _ => h) ?start
    (fun pre x a' W => pre ++ [x] <+: L ∧ a' = { tmps := #[.slice none 0 0, .func (.func gf) #[] lb, .pointer (some ⟨w.heap.size, 0, none⟩), undef, .slice none 0 0, (.string x), .func (.func gf) #[] lb, (.string x), undef, undef, undef, undef, undef], defers := [] })
    (fun _ _ _ _ _ _ h _ => h) ?assign ?body ?done ?stop)
  case start => exact ⟨none, 0, by simp, by simp, ⟨rfl, .inl ⟨rfl, rfl⟩⟩, by simp, by simp [maxLen], Keep.of_up ((Up.refl w).alloc _)⟩
  case assign =>
    intro l pre x W K hI hG hK
    gi_wp2
    exact hK _ _ (KpR.refl _ _ _ _) hI ⟨hG, rfl⟩
  case body =>
    rintro l pre x a' W hl hr ⟨A, c, h1, h2, h3, h4, h5, h6⟩ ⟨hG, rfl⟩
    have hlen : pre.length + 1 ≤ L.length := by have := hG.length_le; simpa using this
    have hz := h6.size
    have hb0 : w.heap.size < W.heap.size := cell_lt h1
    have H3 := Lib.hid h3
    have H6 := Lib.hid h6
    have HG := Lib.hid hG
    clear h3 h6 hG hr hl
    obtain ⟨m, hm⟩ : ∃ m, pre.length = m := ⟨_, rfl⟩
    have HM := Lib.hid hm
    rw [hm] at h1 H3 hlen h4
    clear hm
    refine wpIn_block ?_
    refine in_region (by kernel_rfl) (by intro _ _ h; exact h) ?_
    have q1 : m + 1 ≤ maxLen := by simp [maxLen]; omega
    have q2 : (m + 1) * 16 ≤ 140737488355328 := by omega
    have q3 : w.heap.size + 1 ≤ (W.alloc (.cells #[(.string x)] 9)).heap.size := by simp; omega
    have Q1 := Lib.hid q1
    have Q2 := Lib.hid q2
    have Q3 := Lib.hid q3
    clear q1 q2 q3
    have hne : Hid ((Value.slice A m c).ownBlock ≠ some w.heap.size) := fun e => by
      have := own_bd H3.out _ e
      omega
    have k1 : Hid ((W.alloc (.cells #[(.string x)] 9)).cell? ⟨w.heap.size, 0, none⟩ = some (.slice A m c)) := by
      show (W.alloc (.cells #[(.string x)] 9)).cell? ⟨w.heap.size, 0, none⟩ = some (.slice A m c)
      rw [World.cell?_alloc_lt W _ ⟨w.heap.size, 0, none⟩ hb0]; exact h1
    have k2 : Hid ((W.alloc (.cells #[(.string x)] 9)).frozen? ⟨w.heap.size, 0, none⟩ = false) := by
      show (W.alloc (.cells #[(.string x)] 9)).frozen? ⟨w.heap.size, 0, none⟩ = false
      exact ((((Up.refl W).alloc _).at_ w.heap.size hb0).2 0).trans h2
    have hlt2 : w.heap.size < (W.alloc (.cells #[(.string x)] 9)).heap.size := by simp; omega
    have HLT := Lib.hid hlt2
    clear hlt2
    go_wp2_with (at_builtin; refine wpList_app _ rfl (.tmp 8) (.tmp 10) 209 rfl (w.heap.size + 1) 9 i0 _ 1 16 Tryz.underlying209 hi hz0 hz1 hz2 rfl (by decide) A m c (strs pre) rfl (H3.out.alloc _) (W.heap.size + 1) (some ⟨W.heap.size, 0, none⟩) 1 1 [(.string x)] rfl (reads_at W W.heap.size 1 1 #[(.string x)] _ rfl rfl) (one_str [x]) Q1.out Q2.out Q3.out ?_; intro A1 c1 w1 hown1 hg1 hle1 hmx1 hbl1; obtain ⟨gc, gz⟩ := grown_at hg1 w.heap.size HLT.out hne.out; have gc1 := (gc 0).trans k1.out; have gz1 := (gz 0).trans k2.out; have HO := Lib.hid hown1; have HG1 := Lib.hid hg1; have HB1 := Lib.hid hbl1; clear hown1 hg1 hbl1 gc gz)
    have hk : KpR (w.heap.size + 1) (w.heap.size + 1) (fun k => k = w.heap.size) W (w1.setCell ⟨w.heap.size, 0, none⟩ (.slice A1 (m + 1) c1)) :=
      ((KpR.of_up ((Up.refl W).alloc (.cells #[(.string x)] 9)) (by omega)).trans (KpR.grown HG1.out (by simp; omega) (own_cells (H3.out.alloc (.cells #[(.string x)] 9))))).trans (KpR.setCell (.inl rfl) gc1)
    have hkk : Keep T w (w1.setCell ⟨w.heap.size, 0, none⟩ (.slice A1 (m + 1) c1)) := by
      have b1 : Below w.heap.size W (W.alloc (.cells #[(.string x)] 9)) := (Below.refl w.heap.size W).alloc (by omega) _
      have b2 : Below w.heap.size (W.alloc (.cells #[(.string x)] 9)) w1 := HB1.out.mono (Nat.le_succ _)
      exact H6.out.far ((b1.trans b2).setCell (p := ⟨w.heap.size, 0, none⟩) (Nat.le_refl _) _)
    have hl1 : (pre ++ [x]).length = m + 1 := by have := HM.out; simp [this]
    refine ⟨by simpa using hk, ?_⟩
    unfold SeqS
    rw [hl1, strs_app]
    exact ⟨A1, c1, World.cell?_setCell_same (h := gc1) .., by rw [World.frozen?_setCell]; exact gz1, own_far HO.out (by simp) _, hle1, hmx1, hkk⟩
  case done =>
    rintro Dd xs W hD2 rfl ⟨A, c, h1, h2, h3, h4, h5, h6⟩ hK
    have H3 := Lib.hid h3
    have H6 := Lib.hid h6
    clear h3 h6
    go_wp2
    have hc : Calm (w.heap.size + 1) T W (W.putObj Dd (.deferred none)) := Calm.putObj _ (by simpa using hD2) hK rfl
    refine ⟨by simp, .inl ⟨_, _, rfl, run_takeDeferred hK, ?_⟩⟩
    exact ⟨_, results_tmp rfl _ _ _, A, c, rfl, own_base (hc.own H3.out (fun k ht => by have := hT k ht; omega)) (by omega), h4, h5, hc.keepS H6.out (by omega)⟩
  case stop =>
    rintro Dd c pre W _ _ h _
    exact h.elim
set_option maxRecDepth 100000 in
set_option maxHeartbeats 1600000 in
theorem collect_str {gf : Nat} {lb : Array Value} {T D : Nat → Prop} {w : World} (L : List ByteArray) (hE : ∀ args w, (callFunc gf args).run Tryz.prog w = .ok (.enter gf args) w)
    (hT : ∀ k, T k → k < w.heap.size) (hD : ∀ k, D k → k < w.heap.size) (hn : L.length ≤ 65536)
    (hseq : ItFor Tryz.prog gf lb (fun x : ByteArray => #[.string x]) T D (fun pre x _ => pre ++ [x] <+: L) (· = L) (· <+: L) w) :
    Calls Tryz.prog 219 #[.func (.func gf) #[] lb] w fun e w' => ∃ A c, e = .returned (.slice A L.length c) ∧ w'.ownsRow w.heap.size 9 1 (.slice A L.length c) L.length (strs L) ∧ L.length ≤ c ∧ c ≤ maxLen ∧ Keep T w w' := by
  go_enter Tryz.func219, Tryz.ntmps219
  go_wp2_with fail
  refine (appendSeq_str L hE hT hD hn hseq).mono ?_
  rintro e w' ⟨A, c, rfl, h1, h2, h3, h4⟩
  have H1 := Lib.hid h1
  have H4 := Lib.hid h4
  clear h1 h4
  go_wp2_with fail
  go_ret
  exact ⟨A, c, rfl, H1.out, h2, h3, H4.out⟩

set_option maxRecDepth 100000 in
set_option maxHeartbeats 3200000 in
theorem svals_it {b1 g off n c : Nat} {L : List ByteArray} (D : Nat → Prop) (w : World) (hD : ∀ k, D k → k < w.heap.size) (hL : L.length = n) (hn : n ≤ 1000) (hm : w.cell? ⟨b1, 0, none⟩ = some (.slice (some ⟨g, off, none⟩) n c)) (hr : ∀ j v, (strs L)[j]? = some v → w.cell? ⟨g, off + j, none⟩ = some v) (hDm : D b1) (hDw : D g) :
    ItFor Tryz.prog 221 #[.pointer (some ⟨b1, 0, none⟩)] (fun x : ByteArray => #[.string x]) (fun _ => False) D (fun pre x _ => pre ++ [x] <+: L) (· = L) (· <+: L) w := by
  intro n' w1 E hu1 hDE l J Jx W hu2 hJ hJx hY h0
  have hsame : ∀ k, D k → W.heap[k]? = w.heap[k]? := fun k hk => ((hu1.trans hu2).block k (hD k hk))
  have hm0 : W.cell? ⟨b1, 0, none⟩ = some (.slice (some ⟨g, off, none⟩) n c) := (World.cell?_of_block (hsame b1 hDm)).trans hm
  have hni : (n : Int) ≤ 1000 := by omega
  refine callsIn_of_wp Tryz.func221 rfl trivial ?_ rfl
  simp only [Tryz.ntmps221, List.size_toArray, List.length_cons, List.length_nil, Nat.reduceAdd, Nat.reduceSub, Array.replicate_succ, Array.replicate_zero, List.push_toArray, List.append_toArray, List.nil_append, List.cons_append]
  have HS := Lib.hid hsame
  have HY := Lib.hid hY
  have HJ := Lib.hid hJ
  have HJx := Lib.hid hJx
  have HR := Lib.hid hr
  have HL := Lib.hid hL
  have H0 := Lib.hid h0
  have HDE := Lib.hid hDE
  have HD := Lib.hid hD
  clear hsame hY hJ hJx h0 hDE hD hr hL hm
  gi_wp2
  gi_loopw [7] (fun q wr => ∃ j : Nat, j ≤ n ∧ q = .int .i64 (j : Int) ∧ J (L.take j) wr ∧ ∀ k, D k → wr.heap[k]? = w.heap[k]?) (fun q _ => n - (intOf q).toNat)
  case atStart => exact ⟨0, by omega, rfl, H0.out, HS.out⟩
  case round =>
    obtain ⟨j, hj, rfl, hJs, hds⟩ := hrel
    by_cases hlt : j < n
    · have hlt' : (j : Int) < (n : Int) := by omega
      have hcw : wr.cell? ⟨g, off + j, none⟩ = some (.string (L.getD j eS)) := (World.cell?_of_block (hds g hDw)).trans (HR.out j _ (str_at (by rw [HL.out]; exact hlt)))
      have HDS := Lib.hid hds
      clear hds
      have hp : L.take j ++ [L.getD j eS] = L.take (j + 1) := by
        rw [List.take_add_one, List.getD, List.getElem?_eq_getElem (by rw [HL.out]; exact hlt)]
        rfl
      have hp2 : L.take j ++ [L.getD j eS] <+: L := by rw [hp]; exact List.take_prefix _ _
      obtain ⟨fn, tmps, assign, body, hy, hR⟩ := HY.out (L.take j) (L.getD j eS) wr hJs hp2
      obtain ⟨x, hx⟩ : ∃ x, L.getD j eS = x := ⟨_, rfl⟩
      rw [hx] at hcw hy hR hp hp2
      have HP := Lib.hid hp
      have HP2 := Lib.hid hp2
      clear hx hp hp2
      gi_wp2_with fail
      refine ⟨fun h => by simp [Fence.wide] at h, ?_⟩
      refine hR.mono ?_
      rintro e W' (⟨rfl, hJ', hk⟩ | ⟨rfl, hJx'⟩)
      · have hds' : ∀ k, D k → W'.heap[k]? = w.heap[k]? := fun k hk' => (hk.low k (by have := HD.out k hk'; have := hu1.size; omega) (HDE.out k hk')).trans (HDS.out k hk')
        have HDS' := Lib.hid hds'
        have HJ' := Lib.hid hJ'
        clear hds' hJ' hk
        gi_wp2
        go_roundw
        case rel => exact ⟨j + 1, by omega, by go_num, by rw [← HP.out]; exact HJ'.out, HDS'.out⟩
        case measure => simp [intOf]; omega
      · have HX := Lib.hid hJx'
        clear hJx'
        gi_wp2
        refine bodyPost_ret (results_none rfl _ _ _) rfl ?_
        exact ⟨⟨_, rfl⟩, .inr ⟨_, HP2.out, HX.out⟩⟩
    · obtain rfl : j = n := by omega
      have hJL : J L wr := by
        have := hJs
        rwa [List.take_of_length_le (by rw [HL.out]; exact Nat.le_refl _)] at this
      have HJS := Lib.hid hJL
      clear hJs hJL
      gi_wp2
      go_end0
      exact ⟨⟨_, rfl⟩, .inl ⟨_, rfl, HJS.out⟩⟩
end Go.Proofs.YtamfjgioajmnpaaGreatDoor
namespace Go.Proofs.YtamfjgioajmnpaaGreatDoor
open Go.RowKit
set_option linter.unusedVariables false
set_option linter.unusedSimpArgs false

theorem own_form1 {w : World} {B : Nat} {e : TypeId} {A : Option Addr} {n c : Nat} {xs : List Value} (h : w.ownsRow B e 1 (.slice A n c) n xs) (h0 : 1 ≤ n) : ∃ g, A = some ⟨g, 0, none⟩ ∧ B ≤ g := by
  rcases h.2 with ⟨e1, e2⟩ | ⟨g', cap, cur, e1, e2, e3, e4⟩
  · omega
  · injection e1 with e1 e8 e9
    exact ⟨g', e1, e2⟩
theorem Row.of_own1 {w : World} {B : Nat} {e : TypeId} {g n c : Nat} {xs : List Value} (h : w.ownsRow B e 1 (.slice (some ⟨g, 0, none⟩) n c) n xs) (hc : n ≤ c) (hm : c ≤ maxLen) : Row e 1 w (fun k => B ≤ k) (some ⟨g, 0, none⟩) n c xs :=
  ⟨own_base h (Nat.zero_le _), hc, hm, fun g' hg => by
    have := (own_bd h g' (by simpa [blk, Value.ownBlock] using hg)).1
    exact this⟩
theorem svalues_is (A : Option Addr) (n c : Nat) (w : World) : Calls Tryz.prog 166 #[.slice A n c] w fun e w' => e = .returned (.func (.func 221) #[] #[.pointer (some ⟨w.heap.size, 0, none⟩)]) ∧ w'.cell? ⟨w.heap.size, 0, none⟩ = some (.slice A n c) ∧ Up w w' := by
  go_enter Tryz.func166, Tryz.ntmps166
  go_wp2
  go_ret
  exact ⟨rfl, by simp, (Up.refl w).alloc _⟩
set_option maxRecDepth 100000 in
set_option maxHeartbeats 1600000 in
theorem ssorted_is {b1 g off n c : Nat} {L : List ByteArray} {w : World} (hL : L.length = n) (hn : n ≤ 12) (h0 : 1 ≤ n) (hm : w.cell? ⟨b1, 0, none⟩ = some (.slice (some ⟨g, off, none⟩) n c)) (hr : ∀ j v, (strs L)[j]? = some v → w.cell? ⟨g, off + j, none⟩ = some v) :
    Calls Tryz.prog 165 #[.func (.func 221) #[] #[.pointer (some ⟨b1, 0, none⟩)]] w fun e w' => ∃ g' c', e = .returned (.slice (some ⟨g', 0, none⟩) n c') ∧ Row 9 1 w' (fun k => w.heap.size ≤ k) (some ⟨g', 0, none⟩) n c' (strs (insN L (n - 1))) ∧ Up w w' := by
  have hg : g < w.heap.size := cell_lt (hr 0 _ (str_at (by omega)))
  have hb := cell_lt hm
  have HC := Lib.hid (collect_str (gf := 221) (lb := #[.pointer (some ⟨b1, 0, none⟩)]) (T := fun _ => False) (D := fun k => k = b1 ∨ k = g) (w := w) L (fun _ _ => rfl) (fun _ h => h.elim) (fun k h => by rcases h with rfl | rfl <;> assumption) (by omega)
    (svals_it (fun k => k = b1 ∨ k = g) w (fun k h => by rcases h with rfl | rfl <;> assumption) hL (by omega) hm hr (.inl rfl) (.inr rfl)))
  have HL := Lib.hid hL
  clear hm hr hL
  go_enter Tryz.func165, Tryz.ntmps165
  go_wp2_with fail
  refine HC.out.mono ?_
  rintro e w1 ⟨A, c1, rfl, h1, h2, h3, h4⟩
  have hu1 : Up w w1 := (Up.refl w).keep h4 (fun _ h => h.elim)
  rw [HL.out] at h1 h2
  obtain ⟨g1, rfl, hg1⟩ := own_form1 h1 h0
  have HR1 := Lib.hid (Row.of_own1 h1 h2 h3)
  have HS := Lib.hid (sort_is HR1.out hn h0)
  have HU1 := Lib.hid hu1
  have hLn : L.length = n := HL.out
  rw [show (Value.slice (some ⟨g1, 0, none⟩) L.length c1) = .slice (some ⟨g1, 0, none⟩) n c1 by rw [hLn]]
  clear h1 hu1 h4 hLn
  go_wp2_with (go_at_call 220; refine HS.out.mono ?_; rintro e w2 ⟨rfl, hr2, hk2⟩; have HR2 := Lib.hid hr2; have HK2 := Lib.hid hk2; clear hr2 hk2)
  go_ret
  exact ⟨g1, c1, rfl, HR2.out, HU1.out.keep HK2.out (fun k hk => by subst hk; exact hg1)⟩
set_option maxRecDepth 100000 in
set_option maxHeartbeats 1600000 in
theorem sclone_is {g n c : Nat} {F : Nat → Prop} {L : List ByteArray} {w : World} (h : Row 9 1 w F (some ⟨g, 0, none⟩) n c (strs L)) (hn : n ≤ 1000) (h0 : 1 ≤ n) :
    Calls Tryz.prog 168 #[.slice (some ⟨g, 0, none⟩) n c] w fun e w' => ∃ g' c', e = .returned (.slice (some ⟨g', 0, none⟩) n c') ∧ Row 9 1 w' (fun k => w.heap.size ≤ k) (some ⟨g', 0, none⟩) n c' (strs L) ∧ Up w w' := by
  obtain ⟨i0, hi, hz0, hz1, hz2⟩ := info_parts info_str
  have H := Lib.hid h
  have hnil := Lib.run_eql_slice_nil (P := Tryz.prog) w 209 9 (some ⟨g, 0, none⟩) n c 0 0 Tryz.underlying209
  clear h
  go_enter Tryz.func168, Tryz.ntmps168
  go_wp2_with (at_builtin; refine wpList_app _ rfl (.tmp 5) (.tmp 6) 209 rfl w.heap.size 9 i0 _ 1 16 Tryz.underlying209 hi hz0 hz1 hz2 rfl (by decide) _ 0 0 [] rfl (World.ownsRow_lit w #[] 0 (Nat.le_refl _) (by simp [maxLen]) rfl) w.heap.size (some ⟨g, 0, none⟩) n c (strs L) rfl (H.out.reads.alloc (Nat.le_refl _) _) (one_str L) (by simp [maxLen]; omega) (by omega) (by simp) ?_; intro A1 c1 w1 hown1 hg1 hle1 hmx1 hbl1; simp only [Nat.zero_add, List.nil_append] at hown1 hle1; have HO := Lib.hid hown1; have HB := Lib.hid hbl1; clear hown1 hbl1)
  go_ret
  obtain ⟨g1, rfl, hg1⟩ := own_form1 HO.out h0
  refine ⟨g1, c1, by simp, ⟨own_base HO.out (Nat.zero_le _), hle1, hmx1, fun g' hg' => (by obtain ⟨p, e1, rfl⟩ := blk_of hg'; injection e1 with e1; subst e1; exact hg1)⟩, ((Up.refl _).alloc _).past HB.out⟩
set_option maxRecDepth 100000 in
set_option maxHeartbeats 3200000 in
theorem scompact_is {g n c : Nat} {F : Nat → Prop} {L : List ByteArray} {w : World} (h : Row 9 1 w F (some ⟨g, 0, none⟩) n c (strs L)) (hn : n ≤ 1000) (h2 : 2 ≤ n) (hd : ∀ j, j + 1 < n → ((L.getD (j + 1) eS).toList == (L.getD j eS).toList) = false) :
    Calls Tryz.prog 167 #[.slice (some ⟨g, 0, none⟩) n c] w fun e w' => e = .returned (.slice (some ⟨g, 0, none⟩) n c) ∧ Up w w' := by
  have H := Lib.hid h
  have hll : L.length = n := by have := h.len; simpa [strs] using this
  have HL := Lib.hid hll
  have HD := Lib.hid hd
  have hni : (n : Int) ≤ 1000 := by omega
  have hn2 : (2 : Int) ≤ (n : Int) := by omega
  clear h hll hd
  go_enter Tryz.func167, Tryz.ntmps167
  go_wp2_with fail
  go_loopw [3] (fun q wr => ∃ j : Nat, q = .int .i64 ((j + 1 : Nat) : Int) ∧ j + 1 ≤ n ∧ Up w wr) (fun q _ => n - (intOf q).toNat)
  case atStart => exact ⟨0, rfl, by omega, Up.refl _⟩
  case round =>
    obtain ⟨j, rfl, hj, hu⟩ := hrel
    have HU := Lib.hid hu
    clear hu
    by_cases hlt : j + 1 < n
    · have hlt' : ((j + 1 : Nat) : Int) < (n : Int) := by omega
      have hj1 : IntKind.i64.wrap (((j + 1 : Nat) : Int) - 1) = (j : Int) := by rw [IntWalk.i64_in _ (by omega)]; omega
      have hjn : (j : Int) < (n : Int) := by omega
      obtain ⟨c1, -⟩ := (H.out.up HU.out).cellAt (str_at (L := L) (j := j + 1) (by rw [HL.out]; omega))
      obtain ⟨c2, -⟩ := (H.out.up HU.out).cellAt (str_at (L := L) (j := j) (by rw [HL.out]; omega))
      have he := HD.out j hlt
      obtain ⟨x, hx⟩ : ∃ x, L.getD (j + 1) eS = x := ⟨_, rfl⟩
      obtain ⟨y, hy⟩ : ∃ y, L.getD j eS = y := ⟨_, rfl⟩
      rw [hx] at c1 he
      rw [hy] at c2 he
      clear hx hy
      go_wp2_with fail
      go_quiet (fail)
      go_wp2_with fail
      refine ⟨⟨j + 1, by go_num, by omega, HU.out.drewN _⟩, ?_⟩
      simp only [intOf]
      omega
    · have hge : ¬ ((j + 1 : Nat) : Int) < (n : Int) := by omega
      go_wp2_with fail
      go_ret
      exact ⟨rfl, HU.out⟩
end Go.Proofs.YtamfjgioajmnpaaGreatDoor
namespace Go.Proofs.YtamfjgioajmnpaaGreatDoor
open Go.RowKit Go.Maps
set_option linter.unusedVariables false
set_option linter.unusedSimpArgs false

/-- the names, rising -/
def tN : List ByteArray := [⟨#[97, 108, 97, 114, 109, 115]⟩, ⟨#[107, 101, 121, 115]⟩, ⟨#[114, 101, 97, 100, 115]⟩, ⟨#[114, 101, 99, 111, 114, 100, 115]⟩, ⟨#[114, 101, 102, 117, 115, 101, 100]⟩, ⟨#[114, 101, 106, 101, 99, 116, 101, 100]⟩]
/-- as they are given -/
def tG : List ByteArray := [⟨#[114, 101, 99, 111, 114, 100, 115]⟩, ⟨#[114, 101, 106, 101, 99, 116, 101, 100]⟩, ⟨#[107, 101, 121, 115]⟩, ⟨#[114, 101, 102, 117, 115, 101, 100]⟩, ⟨#[114, 101, 97, 100, 115]⟩, ⟨#[97, 108, 97, 114, 109, 115]⟩]
theorem tN_sort : insN tG 5 = tN := by kernel_rfl
def u64s (V : List Int) : List Value := V.map (Value.int .u64)
def tlVals (g1 c1 g2 : Nat) (dn st : Int) (mp : Option Nat) : List Value := [.slice (some ⟨g1, 0, none⟩) 6 c1, .slice (some ⟨g2, 0, none⟩) 6 6, .int .u32 dn, .int .i32 st, .int .u32 0, .map mp]
structure TlC (w : World) (b : Nat) (F : Nat → Prop) (V : List Int) (g1 c1 g2 : Nat) (dn st : Int) (mp : Option Nat) : Prop where
  st : St w 225 b (tlVals g1 c1 g2 dn st mp)
  fb : F b
  nm : Row 9 1 w F (some ⟨g1, 0, none⟩) 6 c1 (strs tN)
  ct : Row 230 1 w F (some ⟨g2, 0, none⟩) 6 6 (u64s V)
  lt : ∀ k, F k → k < w.heap.size
def tMap : Nat → DataW Unit
  | 0 => .map []
  | j + 1 => (tMap j).put (.string (tN.getD j eS).data.toList) (.lit (.int .i64 j))
def TMap (w : World) (m n : Nat) : Prop := w.ownsMap Tryz.prog 9 (plainElem Tryz.prog 3) m n (tMap n)
def TlAt (w : World) (b : Nat) (F : Nat → Prop) (V : List Int) : Prop := ∃ g1 c1 g2, TlC w b F V g1 c1 g2 0 0 none ∨ ∃ m, F m ∧ TlC w b F V g1 c1 g2 1 0 (some m) ∧ TMap w m 6
section
variable {w w' : World} {b g1 c1 g2 : Nat} {F G E : Nat → Prop} {V : List Int} {dn st : Int} {mp : Option Nat}
theorem TlC.hold (h : TlC w b F V g1 c1 g2 dn st mp) (hh : Hold F w w') (hs : w.heap.size ≤ w'.heap.size) : TlC w' b F V g1 c1 g2 dn st mp :=
  ⟨h.st.hold h.fb hh, h.fb, h.nm.hold hh, h.ct.hold hh, fun k hk => by have := h.lt k hk; omega⟩
theorem TlC.mono (h : TlC w b F V g1 c1 g2 dn st mp) (hG : ∀ k, F k → G k) (hl : ∀ k, G k → k < w.heap.size) : TlC w b G V g1 c1 g2 dn st mp :=
  ⟨h.st, hG _ h.fb, h.nm.mono hG, h.ct.mono hG, hl⟩
theorem TMap.at_ {m n : Nat} (h : TMap w m n) (hb : w'.heap[m]? = w.heap[m]?) : TMap w' m n := by
  obtain ⟨es, clock, hb', r⟩ := h
  exact ⟨es, clock, hb.trans hb', r⟩
theorem TlAt.hold (h : TlAt w b F V) (hh : Hold F w w') (hs : w.heap.size ≤ w'.heap.size) : TlAt w' b F V := by
  obtain ⟨g1, c1, g2, h | ⟨m, hm, h, hp⟩⟩ := h
  · exact ⟨g1, c1, g2, .inl (h.hold hh hs)⟩
  · exact ⟨g1, c1, g2, .inr ⟨m, hm, h.hold hh hs, hp.at_ (hh m hm)⟩⟩
theorem TlAt.lt (h : TlAt w b F V) : ∀ k, F k → k < w.heap.size := by
  obtain ⟨g1, c1, g2, h | ⟨m, hm, h, hp⟩⟩ := h
  · exact h.lt
  · exact h.lt
theorem TlAt.fb (h : TlAt w b F V) : F b := by
  obtain ⟨g1, c1, g2, h | ⟨m, hm, h, hp⟩⟩ := h
  · exact h.fb
  · exact h.fb
theorem TlAt.up (h : TlAt w b F V) (hu : Up w w') : TlAt w' b F V := h.hold (fun k hk => hu.block k (h.lt k hk)) hu.size
theorem TlAt.keep (h : TlAt w b F V) (hk : Keep E w w') (he : ∀ k, F k → ¬ E k) : TlAt w' b F V := h.hold (fun k hf => hk.block k (h.lt k hf) (he k hf)) hk.size
theorem TlAt.mono (h : TlAt w b F V) (hG : ∀ k, F k → G k) (hl : ∀ k, G k → k < w.heap.size) : TlAt w b G V := by
  obtain ⟨g1, c1, g2, h | ⟨m, hm, h, hp⟩⟩ := h
  · exact ⟨g1, c1, g2, .inl (h.mono hG hl)⟩
  · exact ⟨g1, c1, g2, .inr ⟨m, hG m hm, h.mono hG hl, hp⟩⟩
end
def newTl : List Int := [0, 0, 0, 0, 0, 0]
theorem tN_ne : ∀ j, j + 1 < 6 → ((tN.getD (j + 1) eS).toList == (tN.getD j eS).toList) = false := by
  intro j hj
  obtain rfl | rfl | rfl | rfl | rfl : j = 0 ∨ j = 1 ∨ j = 2 ∨ j = 3 ∨ j = 4 := by omega
  all_goals kernel_rfl
theorem info_u64 : (Tryz.prog.info? 230).map (fun i => (i.zero, i.size, i.bytes)) = some (some (.agg #[.int .u64 0]), 1, 8) := by kernel_rfl
def z6 : Array Value := #[.int .u64 0, .int .u64 0, .int .u64 0, .int .u64 0, .int .u64 0, .int .u64 0]
theorem make6 (w : World) : (Instr.makeSlice 210 (.int .i64 6) (.int .i64 6)).run Tryz.prog w = .ok (.slice (some ⟨w.heap.size, 0, none⟩) 6 6) (w.alloc (.cells z6 230)) := by
  obtain ⟨i0, hi, hz0, hz1, hz2⟩ := info_parts info_u64
  have h := run_makeSlice (P := Tryz.prog) w 210 230 i0 _ Tryz.underlying210 hi hz0 .i64 .i64 6 6 (by decide) (by decide) (by rw [hz1]; decide) (by rw [hz2]; decide) (by decide)
  rw [hz1, show madeCells (Value.agg #[Value.int IntKind.u64 0]).cells (Int.toNat 6 * 1) = z6 by kernel_rfl] at h
  exact h
theorem tG_ok : ∀ j, j < 6 → (tG.getD j eS).toList.isEmpty = false ∧ (tG.getD j eS).size ≤ 40 := by
  intro j hj
  obtain rfl | rfl | rfl | rfl | rfl | rfl : j = 0 ∨ j = 1 ∨ j = 2 ∨ j = 3 ∨ j = 4 ∨ j = 5 := by omega
  all_goals exact ⟨by kernel_rfl, by decide⟩
set_option maxRecDepth 100000 in
set_option maxHeartbeats 3200000 in
theorem tnew_is {g off : Nat} {c : Nat} {w : World} (hr : ∀ j v, (strs tG)[j]? = some v → w.cell? ⟨g, off + j, none⟩ = some v) :
    Calls Tryz.prog 134 #[.slice (some ⟨g, off, none⟩) 6 c] w fun e w' => ∃ b, e = .returned (.tuple #[.pointer (some ⟨b, 0, none⟩), .int .i64 0]) ∧ TlAt w' b (Gr (fun _ => False) w w') newTl ∧ Up w w' := by
  have H0 := hr 0 _ rfl
  have H1 := hr 1 _ rfl
  have H2 := hr 2 _ rfl
  have H3 := hr 3 _ rfl
  have H4 := hr 4 _ rfl
  have H5 := hr 5 _ rfl
  have HR := Lib.hid hr
  clear hr
  simp only [Nat.add_zero] at H0
  have hmk := make6
  go_enter Tryz.func134, Tryz.ntmps134
  go_wp2_with fail
  go_loopw [12] (fun q wr => ∃ j : Nat, j ≤ 6 ∧ q = .int .i64 (j : Int) ∧ w = wr) (fun q _ => 6 - (intOf q).toNat)
  case atStart => exact ⟨0, by omega, rfl, rfl⟩
  case round =>
    obtain ⟨j, hj, rfl, rfl⟩ := hrel
    by_cases hlt : j < 6
    · have hcx := HR.out j _ (str_at hlt)
      have hok := tG_ok j hlt
      generalize tG.getD j eS = x at hcx hok
      obtain ⟨hx1, hx2⟩ := hok
      have hx3 : ¬ (40 : Int) < (x.size : Int) := by omega
      go_wp2_with fail
      refine ⟨⟨j + 1, by omega, by go_num, trivial⟩, ?_⟩
      simp [intOf]; omega
    · obtain rfl : j = 6 := by omega
      go_wp2_with (first
        | (go_at_call 166; refine (svalues_is _ _ _ _).mono ?_; rintro e w1 ⟨rfl, hb1, hu1⟩; have HB1 := Lib.hid hb1; have HU1 := Lib.hid hu1; clear hb1 hu1)
        | (go_at_call 165; refine (ssorted_is (L := tG) (n := 6) rfl (by omega) (by omega) HB1.out (fun j v hv => by have h1 := HR.out j v hv; exact ((HU1.out.at_ g (cell_lt h1)).1 _).trans h1)).mono ?_; rintro e w2 ⟨g2, c2, rfl, hr2, hu2⟩; rw [show insN tG (6 - 1) = tN from tN_sort] at hr2; have HR2 := Lib.hid hr2; have HU2 := Lib.hid hu2; clear hr2 hu2)
        | (go_at_call 168; refine (sclone_is HR2.out (by omega) (by omega)).mono ?_; rintro e w3 ⟨g3, c3, rfl, hr3, hu3⟩; have HR3 := Lib.hid hr3; have HU3 := Lib.hid hu3; clear hr3 hu3)
        | (go_at_call 167; refine (scompact_is HR3.out (by omega) (by omega) tN_ne).mono ?_; rintro e w4 ⟨rfl, hu4⟩; have HU4 := Lib.hid hu4; clear hu4))
      go_ret2
      have hu4 : Up w w4 := ((HU1.out.trans HU2.out).trans HU3.out).trans HU4.out
      have huA : Up w4 (w4.alloc (.cells z6 230)) := (Up.refl _).alloc _
      have huB : Up (w4.alloc (.cells z6 230)) ((w4.alloc (.cells z6 230)).alloc (.cells (tlVals g2 c2 w4.heap.size 0 0 none).toArray 225)) := (Up.refl _).alloc _
      have hsz : ((w4.alloc (.cells z6 230)).alloc (.cells (tlVals g2 c2 w4.heap.size 0 0 none).toArray 225)).heap.size = w4.heap.size + 2 := by simp
      have hst : St ((w4.alloc (.cells z6 230)).alloc (.cells (tlVals g2 c2 w4.heap.size 0 0 none).toArray 225)) 225 (w4.heap.size + 1) (tlVals g2 c2 w4.heap.size 0 0 none) := by
        have := St.new (w4.alloc (.cells z6 230)) 225 (tlVals g2 c2 w4.heap.size 0 0 none) rfl
        rwa [World.size_alloc] at this
      have hz := hu4.size
      have hz1 := HU1.out.size
      have hg2 : w1.heap.size ≤ g2 := HR2.out.in_ g2 rfl
      have hg2' : g2 < w2.heap.size := HR2.out.lt rfl
      have hz2 := (HU3.out.trans HU4.out).size
      have hct : Row 230 1 (w4.alloc (.cells z6 230)) (fun k => w4.heap.size ≤ k) (some ⟨w4.heap.size, 0, none⟩) 6 6 (u64s newTl) :=
        Row.of_own1 (World.ownsRow_lit w4 z6 6 (Nat.le_refl _) (by simp [maxLen]) rfl) (Nat.le_refl _) (by simp [maxLen])
      have hnm : Row 9 1 (w4.alloc (.cells z6 230)) (fun k => w1.heap.size ≤ k) (some ⟨g2, 0, none⟩) 6 c2 (strs tN) := ((HR2.out.up HU3.out).up HU4.out).up huA
      refine ⟨w4.heap.size + 1, rfl, ⟨g2, c2, w4.heap.size, .inl ⟨hst, ?_, ?_, ?_, fun k hk => ?_⟩⟩, (hu4.trans huA).trans huB⟩
      · exact .inr ⟨by omega, by simp⟩
      · refine ⟨(hnm.up huB).own, (hnm.up huB).le, (hnm.up huB).mx, fun g' hg' => ?_⟩
        injection hg' with hg'
        subst hg'
        exact .inr ⟨by show w.heap.size ≤ g2; omega, by simp; omega⟩
      · refine ⟨(hct.up huB).own, (hct.up huB).le, (hct.up huB).mx, fun g' hg' => ?_⟩
        injection hg' with hg'
        subst hg'
        exact .inr ⟨by show w.heap.size ≤ w4.heap.size; omega, by simp; omega⟩
      · rcases hk with hk | hk
        · exact hk.elim
        · exact hk.2
end Go.Proofs.YtamfjgioajmnpaaGreatDoor
