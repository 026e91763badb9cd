/-
  The document's Tabs. No condition.
-/
import Derived.Test.YtjokcfenncogkaaTabsAll
import Derived.Test.YtjokcfenncogkaaRf13c
namespace Go.Proofs.Ytjokcfenncogkaa
open Go.RowKit
set_option linter.unusedVariables false
set_option linter.unusedSimpArgs false

/-- a row of bools in a block of its own -/
def BoolsAt (w : World) (g : Nat) (L : List Bool) : Prop := FreeAt w g ∧ g < w.heap.size ∧ ∀ i x, L[i]? = some x → w.cell? ⟨g, i, none⟩ = some (.bool x)
theorem BoolsAt.up {w w' : World} {g : Nat} {L : List Bool} (h : BoolsAt w g L) (hu : Up w w') : BoolsAt w' g L :=
  ⟨h.1.keep (hu.block g h.2.1), by have := hu.size; have := h.2.1; omega, fun i x hi => ((hu.at_ g h.2.1).1 i).trans (h.2.2 i x hi)⟩
theorem BoolsAt.set {w : World} {g : Nat} {L : List Bool} (h : BoolsAt w g L) {k : Nat} (hk : k < L.length) (x : Bool) : BoolsAt (w.setCell ⟨g, k, none⟩ (.bool x)) g (L.set k x) := by
  refine ⟨h.1.set _ _, by simp [World.setCell]; exact h.2.1, fun i y hi => ?_⟩
  rw [List.getElem?_set] at hi
  by_cases e : k = i
  · subst e
    rw [if_pos rfl, if_pos hk] at hi
    cases hi
    exact World.cell?_setCell_same (h := h.2.2 k _ (List.getElem?_eq_getElem hk)) ..
  · rw [if_neg e] at hi
    exact (World.cell?_setCell_other _ _ _ _ (by simp [e])).trans (h.2.2 i y hi)
theorem info_bool : (Try.prog.info? 4).map (fun i => (i.zero, i.size, i.bytes)) = some (some (.bool false), 1, 1) := by kernel_rfl
theorem run_bools (m : Nat) (hm : m ≤ 65536) : ∃ O : Obj, (∀ w : World, (Instr.makeSlice 138 (.int .i64 (m : Int)) (.int .i64 (m : Int))).run Try.prog w = .ok (.slice (some ⟨w.heap.size, 0, none⟩) m m) (w.alloc O)) ∧ ∀ w : World, BoolsAt (w.alloc O) w.heap.size (List.replicate m false) := by
  obtain ⟨i0, hi, hz0, hz1, hz2⟩ := info_parts info_bool
  refine ⟨.cells (madeCells (Value.bool false).cells (m * i0.size)) 4, fun w => ?_, fun w => ?_⟩
  · have := run_make (P := Try.prog) w 138 4 i0 _ Try.underlying138 hi hz0 .i64 .i64 (m : Int) (m : Int) (by omega) (by omega) (by rw [hz2]; omega) (by omega)
    simpa using this
  · rw [hz1]
    refine ⟨fun o => by simp, by simp, fun i c hi => ?_⟩
    obtain ⟨hlt, he⟩ := List.getElem?_eq_some_iff.1 hi
    simp at hlt he
    subst he
    rw [World.cell?_alloc_new]
    have hb : i < m * 1 := by omega
    show (madeCells #[.bool false] (m * 1))[i]? = _
    simp only [madeCells, Array.getElem?_map]
    rw [show (Array.range (m * 1))[i]? = some i from by rw [Array.getElem?_range, if_pos hb]]
    simp [Nat.mod_one]
set_option maxRecDepth 100000 in
set_option maxHeartbeats 6400000 in
theorem rtabs_is {q h : Nat} {X : Spc} {w : World} (hr : RAt w q h X) (ok : X.Ok) :
    Calls Try.prog 57 #[.pointer (some ⟨q, 0, none⟩)] w fun e w' => ∃ A c, e = .returned (.slice A X.tabs.length c) ∧ OwnI w.heap.size w' A X.tabs.length c X.tabs ∧ Up w w' := by
  obtain ⟨i0, hi_, hz0, hz1, hz2⟩ := info_parts info_i64
  have HR := Lib.hid hr
  have RF := Lib.hid (fun W (h' : RAt W q h X) => rfirsts_is h' ok)
  obtain ⟨cap, q1, q2, k4⟩ := hr.h4
  have zp := hr.lt
  have hsm := ok.small
  have hbg := ok.big
  have hln := ok.len
  have hcp : (cap : Int) ≤ 9223372036854775807 := by simp [maxLen] at q2; omega
  have hfl : X.firsts.length ≤ 65536 := by
    have h := firstsTo_len X X.attrs.length
    rw [firstsTo_all rfl] at h
    have h2 := those_len (isAt X.L) X.L.length
    have h3 : X.attrs.length ≤ X.L.length := h2
    omega
  have HMEM := Lib.hid (fun (j : Nat) (f : Int) (hf : X.firsts[j]? = some f) => ((mem_firsts ok).1 (List.mem_of_getElem? hf)))
  have HFS := Lib.hid (fun (k : Nat) (hk : k < X.L.length) => show decide ((k : Int) ∈ X.firsts) = X.fst (k : Int) by
    rw [Bool.eq_iff_iff, decide_eq_true_iff, mem_firsts ok]
    exact ⟨fun h => h.2.2, fun h => ⟨by omega, by omega, h⟩⟩)
  obtain ⟨fx, hfx⟩ : ∃ fx : Nat → Bool, (fun k : Nat => X.fst (k : Int)) = fx := ⟨_, rfl⟩
  have HTB := Lib.hid (show X.tabs = those fx X.L.length by rw [← hfx]; rfl)
  have HFX := Lib.hid (fun k : Nat => show X.fst (k : Int) = fx k by rw [← hfx])
  rw [HTB.out]
  obtain ⟨m, hm⟩ : ∃ m, X.L.length = m := ⟨_, rfl⟩
  rw [hm] at q1 k4 hsm hbg hln HFS ⊢
  rw [← hln] at HMEM
  obtain ⟨F, hF⟩ : ∃ F, X.firsts = F := ⟨_, rfl⟩
  rw [hF] at RF HMEM HFS hfl
  obtain ⟨nl, hnl⟩ : ∃ nl, F.length = nl := ⟨_, rfl⟩
  have HNL := Lib.hid hnl
  rw [hnl] at RF hfl
  obtain ⟨O, hrun, hbo⟩ := run_bools m (by omega)
  have HBO := Lib.hid (hbo w)
  clear hr ok q2 hm hF hnl hbo hfx hln HTB
  go_enter Try.func57, Try.ntmps57
  go_wp2_with fail
  refine (RF.out _ (HR.out.up ((Up.refl w).alloc O))).mono ?_
  rintro e w1 ⟨A0, c0, rfl, hown0, hu1⟩
  have HRD := Lib.hid hown0.reads
  have hle0 := hown0.le
  have hc0 : (c0 : Int) ≤ 9223372036854775807 := by have := hown0.mx; simp [maxLen] at this; omega
  have z1 := hu1.size
  simp at z1
  have HB1 := Lib.hid (HBO.out.up hu1)
  have HU1 := Lib.hid (((Up.refl w).alloc O).trans hu1)
  have hA0 : ∀ p, A0 = some p → ¬ p.block = w.heap.size := fun p hp => by have := hown0.at_ p hp; simp at this; omega
  clear hown0 hu1
  go_wp2_with fail
  have HA0 := Lib.hid hA0
  clear hA0
  go_loopw [17] (fun i wr => ∃ (j : Nat) (L : List Bool), j ≤ nl ∧ i = .int .i64 (j : Int) ∧ L.length = m ∧ (∀ k, k < m → L[k]? = some (decide ((k : Int) ∈ F.take j))) ∧ BoolsAt wr w.heap.size L ∧ Keep (fun k => k = w.heap.size) w1 wr) (fun i _ => nl - (intOf i).toNat)
  case atStart => exact ⟨0, List.replicate m false, by omega, rfl, by simp, fun k hk => by simp [hk], HB1.out, Keep.refl _ _⟩
  case round =>
    obtain ⟨j, L, hj, rfl, hL, hLk, hbt, hkj⟩ := hrel
    have HKJ := Lib.hid hkj
    have HBT := Lib.hid hbt
    have HLL := Lib.hid hL
    have HLK := Lib.hid hLk
    have zb := hbt.2.1
    have hrd := (HRD.out.kept hkj HA0.out)
    clear hLk hkj
    by_cases hlt : j < nl
    · obtain ⟨f, hf⟩ : ∃ f, F[j]? = some f := ⟨_, List.getElem?_eq_getElem (by have := HNL.out; omega)⟩
      obtain ⟨f0, f1, -⟩ := HMEM.out j f hf
      obtain ⟨kf, rfl⟩ : ∃ kf : Nat, f = (kf : Int) := ⟨f.toNat, by omega⟩
      have HFT := Lib.hid (show F.take (j + 1) = F.take j ++ [(kf : Int)] by
        obtain ⟨h1, h2⟩ := List.getElem?_eq_some_iff.1 hf
        rw [List.take_succ_eq_append_getElem h1, h2])
      obtain ⟨b, off, rfl, hb⟩ := hrd.form (by omega)
      have hx0 : wr.cell? ⟨b, off + j, none⟩ = some (.int .i64 (kf : Int)) := by
        obtain ⟨_, u, hu, hcu⟩ := hrd.at_ (j := j) (by omega)
        unfold ns at hu
        rw [List.getElem?_map, hf] at hu
        rw [hcu]; exact hu.symm
      have hjn : (j : Int) < (nl : Int) := by omega
      have hkm : kf < L.length := by omega
      obtain ⟨bv, hbv⟩ : ∃ bv, L[kf]? = some bv := ⟨_, List.getElem?_eq_getElem hkm⟩
      have hcl := hbt.2.2 kf bv hbv
      have hfr := hbt.1 kf
      have HKM := Lib.hid hkm
      clear hrd hf hbt hkm hbv
      go_wp2_with fail
      go_roundw
      case rel => exact ⟨j + 1, L.set kf true, by omega, by go_num, by simp [HLL.out], fun k hk => by
        rw [HFT.out, List.getElem?_set]
        by_cases e : kf = k
        · subst e
          rw [if_pos rfl, if_pos HKM.out]; simp
        · rw [if_neg e, HLK.out k hk]
          have : ¬ (k : Int) = (kf : Int) := by omega
          simp [this], HBT.out.set HKM.out true, HKJ.out.setCell (.inl rfl) _⟩
      case measure => simp [intOf]; omega
    · obtain rfl : j = nl := by omega
      have HLX := Lib.hid (show ∀ k, k < m → L[k]? = some (fx k) from fun k hk => by
        rw [HLK.out k hk, List.take_of_length_le (by rw [HNL.out]; omega), HFS.out k hk, HFX.out])
      have HUJ := Lib.hid (HU1.out.keep HKJ.out (fun i hi => by omega))
      have HTL := Lib.hid (fun i => those_len fx i)
      have HTT := Lib.hid (fun i (h : fx i = true) => those_t h)
      have HTF := Lib.hid (fun i (h : fx i = false) => those_f h)
      clear hbt hrd
      generalize wr = wa at *
      go_wp2_with fail
      go_loopw [6, 27] (fun v i wr => ∃ (j : Nat) (A : Option Addr) (n c : Nat), j ≤ m ∧ v = .slice A n c ∧ i = .int .i64 (j : Int) ∧ OwnI wa.heap.size wr A n c (those fx j) ∧ Up wa wr) (fun _ i _ => m - (intOf i).toNat)
      case atStart => exact ⟨0, none, 0, 0, by omega, rfl, rfl, OwnI.nil _ _, Up.refl _⟩
      case round =>
        obtain ⟨i, A, n, c, hi, rfl, rfl, hown, hui⟩ := hrel
        have HUI := Lib.hid hui
        have HOW := Lib.hid hown
        have hn := hown.len
        have hn2 := HTL.out i
        have zi := hui.size
        by_cases hlt2 : i < m
        · obtain ⟨-, hbw, hbc⟩ := HBT.out.up hui
          have hcl := hbc i _ (HLX.out i hlt2)
          have him : (i : Int) < (m : Int) := by omega
          have hn5 : n ≤ 65535 := by omega
          obtain ⟨fi, hfi⟩ : ∃ fi, fx i = fi := ⟨_, rfl⟩
          rw [hfi] at hcl
          have HTTi := Lib.hid (HTT.out i)
          have HTFi := Lib.hid (HTF.out i)
          rw [hfi] at HTTi HTFi
          clear hbc hown hui hn hn2 hfi
          cases fi
          · go_wp2_with fail
            go_roundw
            case rel => exact ⟨i + 1, A, n, c, by omega, rfl, by go_num, by rw [HTFi.out rfl]; exact HOW.out, HUI.out⟩
            case measure => simp [intOf]; omega
          · go_wp2_with (at_builtin; refine wpList_push i0 hi_ hz0 hz1 hz2 Try.underlying50 rfl (.tmp 34) (.tmp 36) rfl _ (i : Int) rfl _ (by simp) wa.heap.size A n c (those fx i) rfl rfl HOW.out hn5 (by (try simp) <;> omega) ?_; intro A2 c2 w5 hown2 hg2 hbl2 _; have HO2 := Lib.hid hown2; have HB2 := Lib.hid hbl2; clear hown2 hg2 hbl2)
            go_roundw
            case rel => exact ⟨i + 1, A2, n + 1, c2, by omega, rfl, by go_num, by rw [HTTi.out rfl]; exact HO2.out, Up.past HUI.out HB2.out⟩
            case measure => simp [intOf]; omega
        · obtain rfl : i = m := by omega
          clear hown hui
          go_wp2_with fail
          go_ret
          exact ⟨A, c, by rw [hn]; rfl, by rw [hn]; exact HOW.out.low (by have := HUJ.out.size; omega), HUJ.out.trans HUI.out⟩
end Go.Proofs.Ytjokcfenncogkaa
