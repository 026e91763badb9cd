/-
  What a page's build computes: the walk. No condition.
-/
import Derived.Test.YthdoighlfoinaaaDoorPage4
import Derived.Deep.DeepMust
namespace Go.Proofs.YthdoighlfoinaaaDoor
open Go.RowKit Go.Maps
set_option linter.unusedVariables false
set_option linter.unusedSimpArgs false

theorem wf_i32 {s : Int} (h : 0 ≤ s ∧ s ≤ 2147483647) : (Lit.int .i32 s).wf = true := by
  have h1 : IntKind.min .i32 = -2147483648 := by decide
  have h2 : IntKind.max .i32 = 2147483647 := by decide
  simp only [Lit.wf, h1, h2, Bool.and_eq_true, decide_eq_true_eq]
  omega
theorem wf_u8 {s : Int} (h : 0 ≤ s ∧ s ≤ 255) : (Lit.int .u8 s).wf = true := by
  have h1 : IntKind.min .u8 = 0 := by decide
  have h2 : IntKind.max .u8 = 255 := by decide
  simp only [Lit.wf, h1, h2, Bool.and_eq_true, decide_eq_true_eq]
  omega
theorem make256 (w : World) : (Instr.makeMap 72 (some (.int .i64 256))).run Tryd.prog w = .ok (.map (some w.heap.size)) (w.alloc (.map #[] 0)) := by
  have h := Tryd.underlying72
  simp [Instr.makeMap, run_underlying h, asInt, go_sem]
set_option maxRecDepth 100000 in
set_option maxHeartbeats 3200000 in
theorem build_is (b : Nat) (k : Int) (hk : isPage k = true) (w : World) (h : PCells w b k 0 1 (fun _ => 0) none) :
    Calls Tryd.prog 37 #[.pointer (some ⟨b, 0, none⟩)] w fun e w' => e = .returned (.tuple #[]) ∧ ∃ m, w.heap.size ≤ m ∧ PCells w' b k 0 1 (signN k) (some m) ∧ MapAt w' m (mapD (signN k) 256) 256 ∧ Near b w w' := by
  have hb0 := h.lt
  have H := Lib.hid h
  clear h
  have hmm := make256
  go_enter Tryd.func37, Tryd.ntmps37
  go_wp2_with fail
  go_loopw [11] (fun q wr => ∃ d : Nat, d ≤ 16 ∧ q = .int .i64 (d : Int) ∧ PCells wr b k 0 1 (sgBase (16 * d)) none ∧ Near b w wr) (fun q _ => 16 - (intOf q).toNat)
  case atStart => exact ⟨0, by omega, rfl, H.out.ext fun i hi => by unfold sgBase; rw [if_neg (by omega)], Near.refl b w⟩
  case round =>
    obtain ⟨d, hd, rfl, hp, hn⟩ := hrel
    have HP := Lib.hid hp
    clear hp
    by_cases hlt : d < 16
    · go_wp2_with (go_at_call 40; refine (row_is d hlt _).mono ?_; rintro e w1 ⟨rfl, hu1⟩)
      go_loopw [16] (fun q wq => ∃ i : Nat, i ≤ 16 ∧ q = .int .i64 (i : Int) ∧ PCells wq b k 0 1 (sgBase (16 * d + i)) none ∧ Near b w wq) (fun q _ => 16 - (intOf q).toNat)
      case atStart => exact ⟨0, by omega, rfl, HP.out.up hu1, hn.up hu1⟩
      case round =>
        obtain ⟨i, hi, rfl, hp2, hn2⟩ := hrel
        by_cases hli : i < 16
        · have hc := hp2.sg (16 * d + i) (by omega)
          have hz := hp2.fz (4 + (16 * d + i)) (by omega)
          have hs := (hp2.setS (16 * d + i) (by omega) (base37.getD (16 * d + i) 0)).ext (fun x _ => sgBase_step (16 * d + i) x)
          have hns := hn2.setCell (4 + (16 * d + i)) (.int .i32 (base37.getD (16 * d + i) 0))
          have hbd := base_bd (16 * d + i)
          have hix := fun w => idx_row d i hlt hli w
          generalize base37.getD (16 * d + i) 0 = v at *
          have HS := Lib.hid hs
          have HNS := Lib.hid hns
          clear hs hns hp2 hn2 HP hn
          go_wp2
          go_roundw
          case rel => exact ⟨i + 1, by omega, by go_num, HS.out, HNS.out⟩
          case measure => simp [intOf]; omega
        · have he : i = 16 := by omega
          subst he
          have HP2 := Lib.hid hp2
          have HN2 := Lib.hid hn2
          clear hp2 hn2 HP hn hu1
          go_wp2
          go_roundw
          case rel => exact ⟨d + 1, by omega, by go_num, by rw [Nat.mul_add, Nat.mul_one]; exact HP2.out, HN2.out⟩
          case measure => simp [intOf]; omega
    · have he : d = 16 := by omega
      subst he
      have hnum := HP.out.num
      have hltb := HP.out.lt
      go_wp2_with (go_at_call 29; refine (others_is k hk _).mono ?_; rintro e w1 ⟨A, c, rfl, hrd, hnc, hc6, hfar, hu1⟩)
      have hbd := fun j p h => @ovr_bd k j p h
      have hst := fun j p h => sgOth_step k j p h
      have hln := ovr_len k
      have HEND := Lib.hid (sgOth_end k)
      have HST := Lib.hid hst
      have hz0 : PCells w1 b k 0 1 (sgOth k 0) none := (HP.out.up hu1).ext (fun i hi => sgOth_zero k i hi)
      have hn1 := hn.up hu1
      clear hst HP hn hnum
      generalize hL : ovrL k = l at *
      have HN1 := Lib.hid hn1
      have hw1 := hu1.size
      clear hn1 hu1
      go_loopw [42] (fun q wr => ∃ j : Nat, j ≤ l.length ∧ q = .int .i64 (j : Int) ∧ PCells wr b k 0 1 (sgOth k j) none ∧ Near b w1 wr) (fun q _ => l.length - (intOf q).toNat)
      case atStart => exact ⟨0, by omega, rfl, hz0, Near.refl b w1⟩
      case round =>
        obtain ⟨j, hj, rfl, hp, hn⟩ := hrel
        by_cases hlt : j < l.length
        · have hjl : l[j]? = some l[j] := List.getElem?_eq_getElem hlt
          obtain ⟨g, off, rfl, hgb⟩ := hrd.form (by omega)
          have hgw := hfar _ rfl
          simp only at hgw
          have hra := row_at (k := 2) (enc := encO) (fun _ => rfl) hrd hjl (by omega)
          have hga := (Near.at_ hn g hgb (show g ≠ b by omega)).1
          obtain ⟨⟨hx0, hx1⟩, hy0, hy1⟩ := hbd j l[j] hjl
          have hs := HST.out j l[j] hjl
          have hc0 : wr.cell? ⟨g, off + j * 2, none⟩ = some (.int .u8 l[j].1) := (hga _).trans (hra 0 _ rfl)
          have hc1 : wr.cell? ⟨g, off + j * 2 + 1, none⟩ = some (.int .u16 l[j].2) := (hga _).trans (hra 1 _ rfl)
          generalize l[j] = pr at *
          obtain ⟨x, y⟩ := pr
          simp only at hx0 hx1 hy0 hy1 hs hc0 hc1
          obtain ⟨xn, rfl⟩ : ∃ xn : Nat, x = (xn : Int) := ⟨x.toNat, by omega⟩
          have hxn : xn < 256 := by omega
          rw [Int.toNat_natCast] at hs
          have hgr : g < wr.heap.size := by have := hn.size; omega
          have hbr := hp.lt
          have hpc := hp.sg xn hxn
          have hpz := hp.fz (4 + xn) (by omega)
          have HP := Lib.hid hp
          have HN := Lib.hid hn
          have HS := Lib.hid hs
          clear hra hga hp hn hs hjl hbd hz0 hrd hfar
          go_wp2_with fail
          go_region
          go_wp2
          go_roundw
          case rel => exact ⟨j + 1, by omega, by go_num, (((HP.out.setS xn hxn y).up ((Up.refl _).alloc _)).drew).ext HS.out, ((HN.out.setCell (4 + xn) _).up ((Up.refl _).alloc _)).drew⟩
          case measure => simp [intOf]; omega
        · have he : j = l.length := by omega
          subst he
          have hp1 : PCells wr b k 0 1 (signN k) none := hp.ext (fun i _ => HEND.out i)
          have hmc := hp1.mp
          have hmz := hp1.fz 260 (by omega)
          have hbr := hp1.lt
          have hp2 : PCells ((wr.setCell ⟨b, 260, none⟩ (.map (some wr.heap.size))).alloc (.map #[] 0)) b k 0 1 (signN k) (some wr.heap.size) := (hp1.setMp (some wr.heap.size)).up ((Up.refl _).alloc _)
          have hm2 : MapAt ((wr.setCell ⟨b, 260, none⟩ (.map (some wr.heap.size))).alloc (.map #[] 0)) wr.heap.size (mapD (signN k) 0) 0 := by
            have := World.ownsMap_made (wr.setCell ⟨b, 260, none⟩ (.map (some wr.heap.size))) Tryd.prog 21 (plainElem (H := Unit) Tryd.prog 5)
            rw [show (wr.setCell ⟨b, 260, none⟩ (.map (some wr.heap.size))).heap.size = wr.heap.size by simp [World.setCell]] at this
            exact this
          have hn2 : Near b w1 ((wr.setCell ⟨b, 260, none⟩ (.map (some wr.heap.size))).alloc (.map #[] 0)) := (hn.setCell 260 _).up ((Up.refl _).alloc _)
          have hwm : w1.heap.size ≤ wr.heap.size := hn.size
          have HP2 := Lib.hid hp2
          have HM2 := Lib.hid hm2
          have HN2 := Lib.hid hn2
          have HRG := Lib.hid hp2.range
          have hsb := fun c hc => sign_bd hk (c := c) hc
          clear hp1 hp hz0 hn hbd hp2 hm2 hn2 hfar hrd HST HEND
          go_wp2_with (refine wpList_load_mid rfl 71 (.tmp 62) rfl b 4 rfl (sgs (signN k)) _ HRG.out Tryd.underlying71 rfl (by rw [sgs_len]; kernel_rfl) ?_)
          generalize hw2 : (wr.setCell ⟨b, 260, none⟩ (.map (some wr.heap.size))).alloc (.map #[] 0) = w2 at *
          have hmb : wr.heap.size ≠ b := by omega
          obtain ⟨m, hm⟩ : ∃ m, m = wr.heap.size := ⟨_, rfl⟩
          rw [← hm] at HP2 HM2 hmb hwm
          clear hm
          go_loopw [64] (fun q wq => ∃ j : Nat, j ≤ 256 ∧ q = .int .i64 (j : Int) ∧ PCells wq b k 0 1 (signN k) (some m) ∧ MapAt wq m (mapD (signN k) j) j ∧ Near b w1 wq) (fun q _ => 256 - (intOf q).toNat)
          case atStart => exact ⟨0, by omega, rfl, HP2.out, HM2.out, HN2.out⟩
          case round =>
            obtain ⟨j, hj, rfl, hp, hmp, hn⟩ := hrel
            by_cases hlt : j < 256
            · have hix := fun w => idx_sg (signN k) j hlt w
              obtain ⟨hs0, hs1⟩ := hsb j hlt
              have hD : mapD (signN k) (j + 1) = (mapD (signN k) j).put (.int .i32 (signN k j)) (.lit (.int .u8 j)) := rfl
              have HD := Lib.hid hD
              clear hD hsb
              generalize signN k j = s at *
              have hwf : (Lit.int .i32 s).wf = true := wf_i32 (by omega)
              have hwf8 : (Lit.int .u8 (j : Int)).wf = true := wf_u8 (by omega)
              have hkey := keyOf_int_mk Tryd.underlying21 hwf
              have hpm := hp.mp
              have hbl := hp.lt
              have HP := Lib.hid hp
              have HN := Lib.hid hn
              clear hp hn
              go_wp2_with (at_mapUpdate; refine wpList_mapUpdate_own _ rfl _ _ _ 72 rfl 21 5 key32 Tryd.underlying72 _ m j _ rfl hmp (by unfold maxLen; omega) _ _ _ rfl rfl hkey _ [] (plainElem_int Tryd.underlying5 hwf8) ?_; intro w3 hown3 hgrow3)
              have hmm1 : w1.heap.size ≤ m := hwm
              go_roundw
              case rel => exact ⟨j + 1, by omega, by go_num, HP.out.of_block (hgrow3.block b hbl (fun e => hmb (by injection e with e; exact e.symm))) hgrow3.size, HD.out ▸ hown3, HN.out.far (Below.grown (Below.refl _ _) hgrow3 HN.out.size (fun g hg => by injection hg with hg; omega))⟩
              case measure => simp [intOf]; omega
            · have he : j = 256 := by omega
              subst he
              have HP := Lib.hid hp
              have HN := Lib.hid hn
              have HM := Lib.hid hmp
              clear hp hn hmp
              go_wp2
              go_end0
              exact ⟨rfl, m, by have := HN1.out.size; omega, HP.out, HM.out, HN1.out.trans HN.out⟩
end Go.Proofs.YthdoighlfoinaaaDoor
