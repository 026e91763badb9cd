/-
  Unmodify, the document's and field's. No condition.
-/
import Derived.Test.YtjokcfenncogkaaMod13
import Derived.Test.YtjokcfenncogkaaAw13
import Derived.RangeFuncCalls
namespace Go.Proofs.Ytjokcfenncogkaa
open Go.RowKit Go.Shelf
set_option linter.unusedVariables false
set_option linter.unusedSimpArgs false
attribute [local go_sem] Oper.semAt_some

def Cl.clean (d : Cl) : Cl := { d with fa := bits .andNot .u8 d.fa 1 }
theorem not_tab : ∀ k : Fin 256, 0 ≤ bits .andNot .u8 (k.val : Int) 1 ∧ bits .andNot .u8 (k.val : Int) 1 ≤ 255 ∧ bits .and .u8 (k.val : Int) 254 = bits .andNot .u8 (k.val : Int) 1 ∧ fM (six05 (bits .andNot .u8 (k.val : Int) 1)) = false := by decide +kernel
theorem not_bd {v : Int} (h : isB v) : isB (bits .andNot .u8 v 1) ∧ bits .and .u8 v 254 = bits .andNot .u8 v 1 ∧ fM (six05 (bits .andNot .u8 v 1)) = false := by
  have h1 := not_tab ⟨v.toNat, by have := h.2; omega⟩
  have h0 : ((v.toNat : Nat) : Int) = v := by have := h.1; omega
  simp only [h0] at h1
  exact ⟨⟨h1.1, h1.2.1⟩, h1.2.2⟩
theorem Cl.clean_wf {d : Cl} (h : d.Wf) : d.clean.Wf := ⟨h.ch, (not_bd h.fa).1, h.hi, h.co, h.se⟩
def unmodL (X : Spc) (l : List Int) : Spc := l.foldl (fun Y a => Y.set a (Y.at_ a).clean) X
def Spc.unmodify (X : Spc) : Spc := unmodL X X.attrs
theorem unmodL_snoc (X : Spc) (l : List Int) (a : Int) : unmodL X (l ++ [a]) = (unmodL X l).set a ((unmodL X l).at_ a).clean := by simp [unmodL]
theorem unmod_set {Y : Spc} (ok : Y.Ok) (a : Int) : (Y.set a (Y.at_ a).clean).Ok ∧ ∀ n, (Y.set a (Y.at_ a).clean).isA n = Y.isA n := by
  refine ⟨ok.set _ (Cl.clean_wf (ok.at_wf a)), fun n => ?_⟩
  unfold Spc.isA
  rw [at_set ok a n]
  split
  · rename_i h
    rw [Cl.fit_at]
    rw [Spc.at_congr h]; rfl
  · rfl
theorem unmodL_ok {X : Spc} (ok : X.Ok) (l : List Int) : (unmodL X l).Ok ∧ (unmodL X l).L.length = X.L.length ∧ (unmodL X l).r = X.r ∧ (unmodL X l).c = X.c ∧ ∀ n, (unmodL X l).isA n = X.isA n := by
  unfold unmodL
  induction l generalizing X with
  | nil => exact ⟨ok, rfl, rfl, rfl, fun _ => rfl⟩
  | cons a l ih =>
    obtain ⟨h1, h2⟩ := unmod_set ok a
    obtain ⟨a1, a2, a3, a4, a5⟩ := ih h1
    exact ⟨a1, a2.trans (Spc.set_len _ _ _), a3, a4, fun n => (a5 n).trans (h2 n)⟩
theorem unmod_clean {X : Spc} (ok : X.Ok) (l : List Int) : ∀ m, (∃ a, a ∈ l ∧ m % (X.r * X.c) = a % (X.r * X.c)) → X.isA m = true → fM ((unmodL X l).at_ m).fa = false := by
  intro m hm hA
  have gen : ∀ r : List Int, (∃ a, a ∈ r ∧ m % (X.r * X.c) = a % (X.r * X.c)) → fM ((unmodL X r.reverse).at_ m).fa = false := by
    intro r
    induction r with
    | nil => rintro ⟨a, ha, _⟩; cases ha
    | cons a r ih =>
      intro h
      rw [List.reverse_cons, unmodL_snoc]
      obtain ⟨k1, k2, k3, k4, k5⟩ := unmodL_ok ok r.reverse
      rw [at_set k1 a m, k3, k4]
      by_cases he : m % (X.r * X.c) = a % (X.r * X.c)
      · rw [if_pos he]
        have hat : ((unmodL X r.reverse).at_ a).clean.at_ = true := by
          show ((unmodL X r.reverse).at_ a).at_ = true
          have : (unmodL X r.reverse).isA m = true := by rw [k5]; exact hA
          rw [← this]
          exact congrArg Cl.at_ (Spc.at_congr (by rw [k3, k4]; exact he.symm))
        unfold Cl.fit
        rw [if_pos hat]
        exact (not_bd (k1.at_wf a).fa).2.2
      · rw [if_neg he]
        obtain ⟨b, hb, hbm⟩ := h
        simp at hb
        rcases hb with rfl | hb
        · exact absurd hbm he
        · exact ih ⟨b, hb, hbm⟩
  have := gen l.reverse (by obtain ⟨a, h1, h2⟩ := hm; exact ⟨a, by simpa using h1, h2⟩)
  rwa [List.reverse_reverse] at this
theorem attrs_congr {X Y : Spc} (ok : X.Ok) (ok2 : Y.Ok) (hl : Y.L.length = X.L.length) (h : ∀ n, Y.isA n = X.isA n) : Y.attrs = X.attrs := by
  unfold Spc.attrs
  rw [hl]
  exact those_congr fun k hk => by rw [← Spc.isA_nat ok hk, ← Spc.isA_nat ok2 (by omega), h]
set_option maxRecDepth 100000 in
set_option maxHeartbeats 3200000 in
theorem runmodify_is {q h : Nat} {X : Spc} {w : World} (hr : RAt w q h X) (ok : X.Ok) :
    Calls Try.prog 88 #[.pointer (some ⟨q, 0, none⟩)] w fun e w' => e = .returned (.tuple #[]) ∧ RAt w' q h X.unmodify ∧ Keep (two q h) w w' := by
  have HR := Lib.hid hr
  have RA := Lib.hid (rattrs_is hr ok)
  have HOK := Lib.hid ok
  have zp := hr.lt
  have zg := hr.cells.2.1
  have hsm := ok.small
  have hl := those_len (isAt X.L) X.L.length
  have hla : X.attrs.length ≤ X.L.length := hl
  have HMEM := Lib.hid (fun (j : Nat) (a : Int) (ha : X.attrs[j]? = some a) => show ∃ k : Nat, a = k ∧ k < X.L.length from by
    obtain ⟨k, h1, h2, h3⟩ := mem_those.1 (show a ∈ those (isAt X.L) X.L.length from List.mem_of_getElem? ha)
    exact ⟨k, h1, h2⟩)
  have HUN := Lib.hid (show X.unmodify = unmodL X X.attrs from rfl)
  obtain ⟨La, hLa⟩ : ∃ La, X.attrs = La := ⟨_, rfl⟩
  rw [hLa] at RA HMEM hla HUN
  obtain ⟨nl, hnl⟩ : ∃ nl, La.length = nl := ⟨_, rfl⟩
  have HNL := Lib.hid hnl
  rw [hnl] at hla
  obtain ⟨m, hm⟩ : ∃ m, X.L.length = m := ⟨_, rfl⟩
  have HM := Lib.hid hm
  rw [hm] at hsm hla HMEM
  clear hl hr ok hLa hnl hm
  go_enter Try.func88, Try.ntmps88
  go_wp2_with fail
  refine RA.out.mono ?_
  rintro e w1 ⟨A0, c0, rfl, hown0, hu1⟩
  have z1 := hu1.size
  have HU1 := Lib.hid hu1
  have HOW := Lib.hid hown0
  have hc0 : (c0 : Int) ≤ 9223372036854775807 := by have := hown0.mx; simp [maxLen] at this; omega
  have hle0 := hown0.le
  rw [HNL.out] at hle0 HOW ⊢
  clear hown0 hu1
  go_wp2_with fail
  go_loopw [8] (fun i wr => ∃ j : Nat, j ≤ nl ∧ i = .int .i64 (j : Int) ∧ RAt wr q h (unmodL X (La.take j)) ∧ Keep (two q h) w1 wr) (fun i _ => nl - (intOf i).toNat)
  case atStart => exact ⟨0, by omega, rfl, HR.out.up HU1.out, Keep.refl _ _⟩
  case round =>
    obtain ⟨j, hj, rfl, hrj, hkj⟩ := hrel
    have HKJ := Lib.hid hkj
    have HRJ := Lib.hid hrj
    have HOJ := Lib.hid (unmodL_ok HOK.out (La.take j))
    by_cases hlt : j < nl
    · obtain ⟨a, ha⟩ : ∃ a, La[j]? = some a := ⟨_, List.getElem?_eq_getElem (by have := HNL.out; omega)⟩
      obtain ⟨k, rfl, hk⟩ := HMEM.out j a ha
      have hown := HOW.out.held hkj (fun pp hpp hE => by
        have h1 := (HOW.out.at_ pp hpp).1
        rcases hE with hE | hE <;> omega)
      have hrd := hown.reads
      obtain ⟨b, off, rfl, hb⟩ := hrd.form (by omega)
      obtain ⟨hbl, u, hu, hcl⟩ := hrd.at_ (j := j) (by omega)
      have hux : u = .int .i64 (k : Int) := by
        unfold ns at hu
        rw [List.getElem?_map, ha] at hu
        injection hu with hu
        exact hu.symm
      subst hux
      have hjm : (j : Int) < (nl : Int) := by omega
      have HST := Lib.hid (show unmodL X (La.take (j + 1)) = (unmodL X (La.take j)).set (k : Int) ((unmodL X (La.take j)).at_ (k : Int)).clean by
        obtain ⟨h1, h2⟩ := List.getElem?_eq_some_iff.1 ha
        rw [List.take_succ_eq_append_getElem h1, h2, unmodL_snoc])
      obtain ⟨Y, hY⟩ : ∃ Y, unmodL X (La.take j) = Y := ⟨_, rfl⟩
      rw [hY] at HRJ HOJ HST
      obtain ⟨d, hd⟩ : ∃ d, Y.at_ (k : Int) = d := ⟨_, rfl⟩
      rw [hd] at HST
      have hyl : Y.L.length = m := by rw [HOJ.out.2.1]; exact HM.out
      have hat := Spc.at_nat HOJ.out.1 (show k < Y.L.length by omega)
      rw [hd] at hat
      have hwf := HOJ.out.1.at_wf (k : Int)
      rw [hd] at hwf
      have HEQ := Lib.hid ((not_bd hwf.fa).2.1)
      have hcw := Cl.clean_wf hwf
      have HSE := Lib.hid (fun W (h' : RAt W q h Y) => rset_op (w := W) (k : Int) (d := d.clean) rfl hcw h' HOJ.out.1 HST.out.symm)
      obtain ⟨x0, x1, x2, x3, x4, x5⟩ := HRJ.out.cells.2.2 k d hat
      obtain ⟨cap, q1, q2, k4⟩ := HRJ.out.h4
      have zpj := HRJ.out.lt
      have zgj := HRJ.out.cells.2.1
      rw [hyl] at q1 k4
      have hcp : (cap : Int) ≤ 9223372036854775807 := by simp [maxLen] at q2; omega
      have hkm : (k : Int) < (m : Int) := by omega
      have zb := hb
      clear hrd hu ha hk hown hrj hkj hY hd hat hwf hcw hyl q2 hb hbl
      obtain ⟨Y2, hY2⟩ : ∃ Y2, unmodL X (La.take (j + 1)) = Y2 := ⟨_, rfl⟩
      have HY2 := Lib.hid hY2
      rw [hY2] at HSE
      clear hY2
      obtain ⟨dch, da, dfa, dhi, dco, dse⟩ := d
      simp only [Cl.clean] at HSE
      simp only at x0 x1 x2 x3 x4 x5 HEQ
      rw [← HEQ.out] at HSE
      go_wp2_with fail
      refine (HSE.out _ (HRJ.out.up ((Up.refl wr).alloc _))).mono ?_
      rintro e w3 ⟨rfl, hs3, hk3⟩
      have HS3 := Lib.hid hs3
      have HK3 := Lib.hid (show Keep (two q h) wr w3 from (Keep.of_up ((Up.refl wr).alloc _)).trans hk3)
      clear hs3 hk3
      go_wp2_with fail
      go_roundw
      case rel => exact ⟨j + 1, by omega, by go_num, by rw [HY2.out]; exact HS3.out, HKJ.out.trans HK3.out⟩
      case measure => simp [intOf]; omega
    · obtain rfl : j = nl := by omega
      go_wp2_with fail
      go_end0
      refine ⟨rfl, ?_, (Keep.of_up HU1.out).trans HKJ.out⟩
      rw [HUN.out]
      have := HRJ.out
      rwa [List.take_of_length_le (by have := HNL.out; omega)] at this
end Go.Proofs.Ytjokcfenncogkaa
