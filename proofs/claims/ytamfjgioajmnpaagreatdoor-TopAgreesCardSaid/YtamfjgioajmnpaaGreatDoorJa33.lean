/-
write.written and write.Run for a command that erases the screen. Conditions: what Orders does there; the table of names as it lies.
What a terminal makes of a record that writes and restores the keyboard, and of a sign. Conditions: what write.Run does; that the sign has a code and the place is open.
-/
import Derived.Test.YtamfjgioajmnpaaGreatDoorJa18
import Derived.Test.YtamfjgioajmnpaaGreatDoorJa7
import Derived.Test.YtamfjgioajmnpaaGreatDoorJa19
import Derived.Test.YtamfjgioajmnpaaGreatDoorJa32
import Derived.Deep.RegionLaw
namespace Go.Proofs.YtamfjgioajmnpaaGreatDoor
open Go.RowKit
set_option linter.unusedVariables false
set_option linter.unusedSimpArgs false

def resL (cm : Int) (rs al rt : Bool) (pc : Int) (A : Option Addr) (n c : Nat) : List Value := [.int .i64 cm, .bool rs, .bool al, .bool rt, .int .i64 pc, .slice A n c]
def resV (cm : Int) (rs al rt : Bool) (pc : Int) (A : Option Addr) (n c : Nat) : Value := .agg #[.int .i64 cm, .bool rs, .bool al, .bool rt, .int .i64 pc, .slice A n c]
theorem results_res {fn : Func} {tmps : Array Value} {w : World} {B i j : Nat} {cm pc : Int} {rs al rt : Bool} {A : Option Addr} {n c : Nat} {v : Value} (hf : fn.results = #[.cell i 343, .tmp j]) (hp : tmps[i]? = some (.pointer (some ⟨B, 0, none⟩))) (hv : tmps[j]? = some v) (h : St w 343 B (resL cm rs al rt pc A n c)) :
    (results fn tmps).run Tryz.prog w = .ok (.tuple #[resV cm rs al rt pc A n c, v]) w := by
  have hl := run_loadVar_mid (P := Tryz.prog) w B 0 343 (resL cm rs al rt pc A n c) _ (fun j v hv => by rw [Nat.zero_add]; exact h.cell j hv) Tryz.underlying343 rfl (by kernel_rfl)
  simp [results, hf, hp, hv, asAddr, hl, resV, resL, Sem.run_bind, Sem.run_pure]
/-- what Orders does to a screen that lies at p -/
def OrdDo (w : World) (p : Nat) (X Y : Spc) (A : Option Addr) (n c : Nat) (tn pc : Int) : Prop :=
  ∀ W g', w.heap.size ≤ g' → Keep (fun k => k = p) w W → SAt W p g' X → Calls Tryz.prog 335 #[.pointer (some ⟨p, 0, none⟩), .slice A n c, .int .i64 0] W fun e w' => e = .returned (.tuple #[.int .i64 tn, .int .i64 pc, .int .i64 0]) ∧ SAt w' p g' Y ∧ Keep (two p g') W w'
set_option maxRecDepth 100000 in
set_option maxHeartbeats 6400000 in
theorem written_is {w : World} {p g ga off n c : Nat} {X Y : Spc} {cm ctl : Int} {pc tn : Int} {rs al rt : Bool} (hs : SAt w p g X) (ok : X.Ok) (hc1 : (cm == 1) = false) (hb : w.cell? ⟨ga, off, none⟩ = some (.int .u8 ctl)) (hn : 1 < n) (hnc : n ≤ c) (hcm : c ≤ maxLen)
    (hrs : (bits .and .u8 ctl 2 != 0) = rs) (hal : (bits .and .u8 ctl 4 != 0) = al) (hrt : (bits .and .u8 ctl 64 != 0) = rt)
    (HO : OrdDo w p (X.clear (cm == 3)) Y (some ⟨ga, off + 1, none⟩) (n - 1) (c - 1) tn pc) :
    Calls Tryz.prog 282 #[.pointer (some ⟨p, 0, none⟩), .agg #[.int .i64 cm, .bool false, .bool false, .bool false, .int .i64 0, .slice none 0 0], .slice (some ⟨ga, off, none⟩) n c] w fun e w' => e = .returned (.tuple #[resV cm rs al rt pc none 0 0, .int .i64 0]) ∧ ∃ g', w.heap.size ≤ g' ∧ SAt w' p g' Y ∧ Keep (fun k => k = p) w w' := by
  have hnI : (0 : Int) < (n : Int) := by omega
  have hn1 : (1 : Int) ≤ (n : Int) := by omega
  have hncI : (n : Int) ≤ (c : Int) := by omega
  have hcI : (c : Int) ≤ 9223372036854775807 := by simp [maxLen] at hcm; omega
  have zg := cell_lt hb
  have H := Lib.hid hs
  have HOK := Lib.hid ok
  have HOO := Lib.hid HO
  have zp := hs.lt
  have hc1' : (cm != 1) = true := by simp [bne, hc1]
  clear hs ok HO
  go_enter Tryz.func282, Tryz.ntmps282
  go_wp2_with fail
  go_region
  all_goals (try (exfalso; omega; done))
  go_wp2_with fail
  have hu0 : Up w (((w.alloc (.cells #[.int .i64 cm, .bool false, .bool false, .bool false, .int .i64 0, .slice none 0 0] 343)).alloc (.cells #[.int .i64 0, .bool false, .bool false, .bool false, .int .i64 0, .slice none 0 0] 343)).drew) := (((Up.refl w).alloc _).alloc _).drew
  have s4 : St (((w.alloc (.cells #[.int .i64 cm, .bool false, .bool false, .bool false, .int .i64 0, .slice none 0 0] 343)).alloc (.cells #[.int .i64 0, .bool false, .bool false, .bool false, .int .i64 0, .slice none 0 0] 343)).drew) 343 w.heap.size (resL cm false false false 0 none 0 0) := ((St.new w 343 (resL cm false false false 0 none 0 0) rfl).alloc _).drew
  have s6 : St (((w.alloc (.cells #[.int .i64 cm, .bool false, .bool false, .bool false, .int .i64 0, .slice none 0 0] 343)).alloc (.cells #[.int .i64 0, .bool false, .bool false, .bool false, .int .i64 0, .slice none 0 0] 343)).drew) 343 (w.heap.size + 1) (resL 0 false false false 0 none 0 0) := by
    have := (St.new (w.alloc (.cells #[.int .i64 cm, .bool false, .bool false, .bool false, .int .i64 0, .slice none 0 0] 343)) 343 (resL 0 false false false 0 none 0 0) rfl).drew
    rwa [World.size_alloc] at this
  have hz0 : (((w.alloc (.cells #[.int .i64 cm, .bool false, .bool false, .bool false, .int .i64 0, .slice none 0 0] 343)).alloc (.cells #[.int .i64 0, .bool false, .bool false, .bool false, .int .i64 0, .slice none 0 0] 343)).drew).heap.size = w.heap.size + 2 := by simp
  generalize (((w.alloc (.cells #[.int .i64 cm, .bool false, .bool false, .bool false, .int .i64 0, .slice none 0 0] 343)).alloc (.cells #[.int .i64 0, .bool false, .bool false, .bool false, .int .i64 0, .slice none 0 0] 343)).drew) = W0 at *
  refine (sclear_is (cm == 3) (H.out.up hu0) HOK.out).mono ?_
  rintro e w1 ⟨rfl, g', hg', hs1, hk1⟩
  have s41 := s4.keep hk1 (by show ¬ _ = _; omega)
  have s61 := s6.keep hk1 (by show ¬ _ = _; omega)
  have HS1 := Lib.hid hs1
  have HK1 := Lib.hid ((Keep.of_up hu0).trans hk1)
  have z1 := hk1.size
  clear hk1 s4 s6 hu0 hs1
  go_wp2_with fail
  refine (scur_is HS1.out).mono ?_
  rintro e w2 ⟨rfl, rfl⟩
  rw [show (X.clear (cm == 3)).cur = 0 from rfl]
  go_wp2_with fail
  refine (HOO.out w1 g' (by omega) HK1.out HS1.out).mono ?_
  rintro e w3 ⟨rfl, hs3, hk3⟩
  have n4 : ¬ two p g' w.heap.size := fun e => by rcases e with e | e <;> omega
  have n6 : ¬ two p g' (w.heap.size + 1) := fun e => by rcases e with e | e <;> omega
  have s43 := s41.keep hk3 n4
  have s63 := s61.keep hk3 n6
  have k0 := s43.cell 0 (v := .int .i64 cm) rfl
  have k1 := s43.cell 1 (v := .bool false) rfl
  have k2 := s43.cell 2 (v := .bool false) rfl
  have k3 := s43.cell 3 (v := .bool false) rfl
  have k4 := s43.cell 4 (v := .int .i64 0) rfl
  have k5 := s43.cell 5 (v := .slice none 0 0) rfl
  have f1 := s43.free 1
  have f2 := s43.free 2
  have f3 := s43.free 3
  have f4 := s43.free 4
  have m0 := s63.cell 0 (v := .int .i64 0) rfl
  have m1 := s63.cell 1 (v := .bool false) rfl
  have m2 := s63.cell 2 (v := .bool false) rfl
  have m3 := s63.cell 3 (v := .bool false) rfl
  have m4 := s63.cell 4 (v := .int .i64 0) rfl
  have m5 := s63.cell 5 (v := .slice none 0 0) rfl
  have e0 := s63.free 0
  have e1 := s63.free 1
  have e2 := s63.free 2
  have e3 := s63.free 3
  have e4 := s63.free 4
  have e5 := s63.free 5
  have z43 := s43.lt
  have z63 := s63.lt
  have HS3 := Lib.hid hs3
  have HK3 := Lib.hid hk3
  have S43 := Lib.hid s43
  have S63 := Lib.hid s63
  clear hs3 hk3 s43 s63 s41 s61
  go_wp2_with fail
  have hne : (⟨w.heap.size, 4, none⟩ : Addr).block ≠ w.heap.size + 1 := by show w.heap.size ≠ _; omega
  have t6 := (((((((((S63.out.other (p := ⟨w.heap.size, 4, none⟩) hne (.int .i64 pc)).other (p := ⟨w.heap.size, 1, none⟩) hne (.bool rs)).other (p := ⟨w.heap.size, 2, none⟩) hne (.bool al)).other (p := ⟨w.heap.size, 3, none⟩) hne (.bool rt)).set 0 (.int .i64 cm)).set 1 (.bool rs)).set 2 (.bool al)).set 3 (.bool rt)).set 4 (.int .i64 pc)).set 5 (.slice none 0 0)
  have hkz : Keep (fun k => k = w.heap.size ∨ k = w.heap.size + 1) w3 ((((((((((w3.setCell ⟨w.heap.size, 4, none⟩ (.int .i64 pc)).setCell ⟨w.heap.size, 1, none⟩ (.bool rs)).setCell ⟨w.heap.size, 2, none⟩ (.bool al)).setCell ⟨w.heap.size, 3, none⟩ (.bool rt)).setCell ⟨w.heap.size + 1, 0, none⟩ (.int .i64 cm)).setCell ⟨w.heap.size + 1, 1, none⟩ (.bool rs)).setCell ⟨w.heap.size + 1, 2, none⟩ (.bool al)).setCell ⟨w.heap.size + 1, 3, none⟩ (.bool rt)).setCell ⟨w.heap.size + 1, 4, none⟩ (.int .i64 pc)).setCell ⟨w.heap.size + 1, 5, none⟩ (.slice none 0 0)) :=
    ((((((((((Keep.refl _ w3).setCell (p := ⟨w.heap.size, 4, none⟩) (.inl (.inl rfl)) _).setCell (p := ⟨w.heap.size, 1, none⟩) (.inl (.inl rfl)) _).setCell (p := ⟨w.heap.size, 2, none⟩) (.inl (.inl rfl)) _).setCell (p := ⟨w.heap.size, 3, none⟩) (.inl (.inl rfl)) _).setCell (p := ⟨w.heap.size + 1, 0, none⟩) (.inl (.inr rfl)) _).setCell (p := ⟨w.heap.size + 1, 1, none⟩) (.inl (.inr rfl)) _).setCell (p := ⟨w.heap.size + 1, 2, none⟩) (.inl (.inr rfl)) _).setCell (p := ⟨w.heap.size + 1, 3, none⟩) (.inl (.inr rfl)) _).setCell (p := ⟨w.heap.size + 1, 4, none⟩) (.inl (.inr rfl)) _).setCell (p := ⟨w.heap.size + 1, 5, none⟩) (.inl (.inr rfl)) _
  refine bodyPost_ret (results_res (i := 6) (j := 7) (v := .int .i64 0) rfl rfl rfl (show St _ 343 (w.heap.size + 1) (resL cm rs al rt pc none 0 0) from t6)) rfl ⟨rfl, g', by omega, HS3.out.held hkz (by omega) (by omega), (HK1.out.past2 HK3.out (fun k hk => by rcases hk with h | h; exact .inr h; exact .inl (by omega))).past2 hkz (fun k hk => .inl (by omega))⟩
set_option maxRecDepth 100000 in
set_option maxHeartbeats 6400000 in
/-- a record whose command clears the screen -/
theorem wrun_is {w : World} {p g ga off n c i : Nat} {X Y : Spc} {cm c0 ctl : Int} {pc tn : Int} {rs al rt : Bool} (hs : SAt w p g X) (ok : X.Ok) (hT : TabW w) (h0 : w.cell? ⟨ga, off, none⟩ = some (.int .u8 c0)) (hb0 : 0 ≤ c0 ∧ c0 ≤ 255) (hb : w.cell? ⟨ga, off + 1, none⟩ = some (.int .u8 ctl)) (hn : 2 < n) (hnc : n ≤ c) (hcm : c ≤ maxLen)
    (hcmd : cmdOf c0 = some i) (hi : i = 2 ∨ i = 3) (hci : cm = (i : Int)) (hrs : (bits .and .u8 ctl 2 != 0) = rs) (hal : (bits .and .u8 ctl 4 != 0) = al) (hrt : (bits .and .u8 ctl 64 != 0) = rt)
    (HO : ∀ w1, Up w w1 → OrdDo w1 p (X.clear (cm == 3)) Y (some ⟨ga, off + 2, none⟩) (n - 2) (c - 2) tn pc) :
    Calls Tryz.prog 230 #[.pointer (some ⟨p, 0, none⟩), .slice (some ⟨ga, off, none⟩) n c] w fun e w' => e = .returned (.tuple #[resV cm rs al rt pc none 0 0, .int .i64 0]) ∧ ∃ g', w.heap.size ≤ g' ∧ SAt w' p g' Y ∧ Keep (fun k => k = p) w w' := by
  have hnI : (0 : Int) < (n : Int) := by omega
  have hn1 : (1 : Int) ≤ (n : Int) := by omega
  have hncI : (n : Int) ≤ (c : Int) := by omega
  have hcI : (c : Int) ≤ 9223372036854775807 := by simp [maxLen] at hcm; omega
  have hn0 : ((n : Int) == 0) = false := by simp; omega
  have zg := cell_lt h0
  have hnot : ∀ (x : Bool) (w : World), (Op.unary .not (.bool x)).run Tryz.prog w = .ok (.bool (!x)) w := fun _ _ => rfl
  have HC := Lib.hid (fun W (h : TabW W) => cmd_is c0 W h)
  rw [hcmd] at HC
  have hu0 : Up w (w.alloc (.cells #[.int .i64 0, .bool false, .bool false, .bool false, .int .i64 0, .slice none 0 0] 343)) := (Up.refl w).alloc _
  have s4 : St (w.alloc (.cells #[.int .i64 0, .bool false, .bool false, .bool false, .int .i64 0, .slice none 0 0] 343)) 343 w.heap.size (resL 0 false false false 0 none 0 0) := St.new w 343 (resL 0 false false false 0 none 0 0) rfl
  have H := Lib.hid hs
  have HOK := Lib.hid ok
  have HT := Lib.hid hT
  have HOO := Lib.hid HO
  have HB := Lib.hid hb
  have HRS := Lib.hid (And.intro hrs (And.intro hal hrt))
  have hcmd' : (Option.some i).getD 0 = i := rfl
  simp only [Option.getD_some, Option.isSome_some] at HC
  rw [← hci] at HC
  have HI := Lib.hid hi
  have hcm1 : (cm == 1) = false := by rcases hi with h | h <;> subst h <;> subst hci <;> rfl
  have HCM := Lib.hid hci
  clear hs ok hT HO hb hrs hal hrt hcmd hcmd' hi hb0
  go_enter Tryz.func230, Tryz.ntmps230
  go_wp2_with fail
  refine (HC.out _ (HT.out.up hu0)).mono ?_
  rintro e w1 ⟨rfl, hu1⟩
  have s41 := s4.up hu1
  have hu01 := hu0.trans hu1
  have HU1 := Lib.hid hu01
  have z1 := hu01.size
  clear hu1 s4 hu0 hu01
  have hcm2 : cm = 2 ∨ cm = 3 := by
    rcases HI.out with h | h
    · left; have := HCM.out; omega
    · right; have := HCM.out; omega
  clear HI HCM hci
  rcases hcm2 with rfl | rfl
  · go_wp2_with fail
    obtain ⟨cv, hcv⟩ : ∃ cv, w1.heap.size = cv := ⟨_, rfl⟩
    have hu8 := (Up.refl w1).alloc (.cells #[.int .i64 2, .bool false, .bool false, .bool false, .int .i64 0, .slice none 0 0] 343)
    have s8 : St (w1.alloc (.cells #[.int .i64 2, .bool false, .bool false, .bool false, .int .i64 0, .slice none 0 0] 343)) 343 w1.heap.size (resL 2 false false false 0 none 0 0) := St.new w1 343 (resL 2 false false false 0 none 0 0) rfl
    have s42 := s41.up hu8
    rw [hcv] at s8
    have c0 := s8.cell 0 (v := .int .i64 2) rfl
    have c1 := s8.cell 1 (v := .bool false) rfl
    have c2 := s8.cell 2 (v := .bool false) rfl
    have c3 := s8.cell 3 (v := .bool false) rfl
    have c4 := s8.cell 4 (v := .int .i64 0) rfl
    have c5 := s8.cell 5 (v := .slice none 0 0) rfl
    have z8 := s8.lt
    have HU8 := Lib.hid (HU1.out.trans hu8)
    rw [hcv]
    generalize (w1.alloc (.cells #[.int .i64 2, .bool false, .bool false, .bool false, .int .i64 0, .slice none 0 0] 343)) = W8 at *
    have HW := Lib.hid (written_is (w := W8.drew) (cm := 2) (off := off + 1) (n := n - 1) (c := c - 1) (tn := tn) (pc := pc) (Y := Y) (H.out.up (HU8.out.drew)) HOK.out rfl (((HU8.out.drew).at_ ga zg).1 (off + 1) |>.trans HB.out) (by omega) (by omega) (by omega) HRS.out.1 HRS.out.2.1 HRS.out.2.2 (by
      have := HOO.out W8.drew HU8.out.drew
      rw [show n - 1 - 1 = n - 2 by omega, show c - 1 - 1 = c - 2 by omega]
      exact this))
    have zp := H.out.lt
    have hcvp : cv ≠ p := by have := HU1.out.size; omega
    have hc1 : c ≠ 1 := by omega
    have S42 := Lib.hid s42
    go_region_law (go_simp; go_at_call 282; refine HW.out.mono ?_; rintro e w9 ⟨rfl, g', hg', hs9, hk9⟩; obtain ⟨kx, -⟩ := hk9.at_ cv (show cv < W8.drew.heap.size from z8) hcvp; have r0 := (kx 0).trans c0; have r1 := (kx 1).trans c1; have r2 := (kx 2).trans c2; have r3 := (kx 3).trans c3; have r4 := (kx 4).trans c4; have r5 := (kx 5).trans c5; have s49 := (S42.out.drew).keep hk9 (show ¬ w.heap.size = p by omega); have m0 := s49.cell 0 (v := .int .i64 0) rfl; have m1 := s49.cell 1 (v := .bool false) rfl; have m2 := s49.cell 2 (v := .bool false) rfl; have m3 := s49.cell 3 (v := .bool false) rfl; have m4 := s49.cell 4 (v := .int .i64 0) rfl; have m5 := s49.cell 5 (v := .slice none 0 0) rfl; have e0 := s49.free 0; have e1 := s49.free 1; have e2 := s49.free 2; have e3 := s49.free 3; have e4 := s49.free 4; have e5 := s49.free 5; have z49 := s49.lt; have HS9 := Lib.hid hs9; have HK9 := Lib.hid hk9; have S49 := Lib.hid s49; clear hs9 hk9 s49 kx; simp only [resV])
    all_goals
      go_wp2_with fail
      have t6 := ((((((S49.out.set 0 (.int .i64 2)).set 1 (.bool rs)).set 2 (.bool al)).set 3 (.bool rt)).set 4 (.int .i64 pc)).set 5 (.slice none 0 0))
      have hkz : Keep (fun k => k = w.heap.size) w9 ((((((w9.setCell ⟨w.heap.size, 0, none⟩ (.int .i64 2)).setCell ⟨w.heap.size, 1, none⟩ (.bool rs)).setCell ⟨w.heap.size, 2, none⟩ (.bool al)).setCell ⟨w.heap.size, 3, none⟩ (.bool rt)).setCell ⟨w.heap.size, 4, none⟩ (.int .i64 pc)).setCell ⟨w.heap.size, 5, none⟩ (.slice none 0 0)) :=
        ((((((Keep.refl (fun k => k = w.heap.size) w9).setCell (p := ⟨w.heap.size, 0, none⟩) (.inl rfl) _).setCell (p := ⟨w.heap.size, 1, none⟩) (.inl rfl) _).setCell (p := ⟨w.heap.size, 2, none⟩) (.inl rfl) _).setCell (p := ⟨w.heap.size, 3, none⟩) (.inl rfl) _).setCell (p := ⟨w.heap.size, 4, none⟩) (.inl rfl) _).setCell (p := ⟨w.heap.size, 5, none⟩) (.inl rfl) _
      have hz8 := HU8.out.size
      have hg2 : W8.heap.size ≤ g' := hg'
      have hkw : Keep (fun k => k = p) w w9 := (Keep.of_up HU8.out.drew).trans HK9.out
      refine bodyPost_ret (results_res (i := 4) (j := 5) (v := .int .i64 0) rfl rfl rfl (show St _ 343 w.heap.size (resL 2 rs al rt pc none 0 0) from t6)) rfl ⟨rfl, g', by omega, HS9.out.held hkz (by show ¬ _ = _; omega) (by show ¬ _ = _; omega), hkw.past2 hkz (fun k hk => .inl (by have hk' : k = w.heap.size := hk; omega))⟩
  · go_wp2_with fail
    obtain ⟨cv, hcv⟩ : ∃ cv, w1.heap.size = cv := ⟨_, rfl⟩
    have hu8 := (Up.refl w1).alloc (.cells #[.int .i64 3, .bool false, .bool false, .bool false, .int .i64 0, .slice none 0 0] 343)
    have s8 : St (w1.alloc (.cells #[.int .i64 3, .bool false, .bool false, .bool false, .int .i64 0, .slice none 0 0] 343)) 343 w1.heap.size (resL 3 false false false 0 none 0 0) := St.new w1 343 (resL 3 false false false 0 none 0 0) rfl
    have s42 := s41.up hu8
    rw [hcv] at s8
    have c0 := s8.cell 0 (v := .int .i64 3) rfl
    have c1 := s8.cell 1 (v := .bool false) rfl
    have c2 := s8.cell 2 (v := .bool false) rfl
    have c3 := s8.cell 3 (v := .bool false) rfl
    have c4 := s8.cell 4 (v := .int .i64 0) rfl
    have c5 := s8.cell 5 (v := .slice none 0 0) rfl
    have z8 := s8.lt
    have HU8 := Lib.hid (HU1.out.trans hu8)
    rw [hcv]
    generalize (w1.alloc (.cells #[.int .i64 3, .bool false, .bool false, .bool false, .int .i64 0, .slice none 0 0] 343)) = W8 at *
    have HW := Lib.hid (written_is (w := W8.drew) (cm := 3) (off := off + 1) (n := n - 1) (c := c - 1) (tn := tn) (pc := pc) (Y := Y) (H.out.up (HU8.out.drew)) HOK.out rfl (((HU8.out.drew).at_ ga zg).1 (off + 1) |>.trans HB.out) (by omega) (by omega) (by omega) HRS.out.1 HRS.out.2.1 HRS.out.2.2 (by
      have := HOO.out W8.drew HU8.out.drew
      rw [show n - 1 - 1 = n - 2 by omega, show c - 1 - 1 = c - 2 by omega]
      exact this))
    have zp := H.out.lt
    have hcvp : cv ≠ p := by have := HU1.out.size; omega
    have hc1 : c ≠ 1 := by omega
    have S42 := Lib.hid s42
    go_region_law (go_simp; go_at_call 282; refine HW.out.mono ?_; rintro e w9 ⟨rfl, g', hg', hs9, hk9⟩; obtain ⟨kx, -⟩ := hk9.at_ cv (show cv < W8.drew.heap.size from z8) hcvp; have r0 := (kx 0).trans c0; have r1 := (kx 1).trans c1; have r2 := (kx 2).trans c2; have r3 := (kx 3).trans c3; have r4 := (kx 4).trans c4; have r5 := (kx 5).trans c5; have s49 := (S42.out.drew).keep hk9 (show ¬ w.heap.size = p by omega); have m0 := s49.cell 0 (v := .int .i64 0) rfl; have m1 := s49.cell 1 (v := .bool false) rfl; have m2 := s49.cell 2 (v := .bool false) rfl; have m3 := s49.cell 3 (v := .bool false) rfl; have m4 := s49.cell 4 (v := .int .i64 0) rfl; have m5 := s49.cell 5 (v := .slice none 0 0) rfl; have e0 := s49.free 0; have e1 := s49.free 1; have e2 := s49.free 2; have e3 := s49.free 3; have e4 := s49.free 4; have e5 := s49.free 5; have z49 := s49.lt; have HS9 := Lib.hid hs9; have HK9 := Lib.hid hk9; have S49 := Lib.hid s49; clear hs9 hk9 s49 kx; simp only [resV])
    all_goals
      go_wp2_with fail
      have t6 := ((((((S49.out.set 0 (.int .i64 3)).set 1 (.bool rs)).set 2 (.bool al)).set 3 (.bool rt)).set 4 (.int .i64 pc)).set 5 (.slice none 0 0))
      have hkz : Keep (fun k => k = w.heap.size) w9 ((((((w9.setCell ⟨w.heap.size, 0, none⟩ (.int .i64 3)).setCell ⟨w.heap.size, 1, none⟩ (.bool rs)).setCell ⟨w.heap.size, 2, none⟩ (.bool al)).setCell ⟨w.heap.size, 3, none⟩ (.bool rt)).setCell ⟨w.heap.size, 4, none⟩ (.int .i64 pc)).setCell ⟨w.heap.size, 5, none⟩ (.slice none 0 0)) :=
        ((((((Keep.refl (fun k => k = w.heap.size) w9).setCell (p := ⟨w.heap.size, 0, none⟩) (.inl rfl) _).setCell (p := ⟨w.heap.size, 1, none⟩) (.inl rfl) _).setCell (p := ⟨w.heap.size, 2, none⟩) (.inl rfl) _).setCell (p := ⟨w.heap.size, 3, none⟩) (.inl rfl) _).setCell (p := ⟨w.heap.size, 4, none⟩) (.inl rfl) _).setCell (p := ⟨w.heap.size, 5, none⟩) (.inl rfl) _
      have hz8 := HU8.out.size
      have hg2 : W8.heap.size ≤ g' := hg'
      have hkw : Keep (fun k => k = p) w w9 := (Keep.of_up HU8.out.drew).trans HK9.out
      refine bodyPost_ret (results_res (i := 4) (j := 5) (v := .int .i64 0) rfl rfl rfl (show St _ 343 w.heap.size (resL 3 rs al rt pc none 0 0) from t6)) rfl ⟨rfl, g', by omega, HS9.out.held hkz (by show ¬ _ = _; omega) (by show ¬ _ = _; omega), hkw.past2 hkz (fun k hk => .inl (by have hk' : k = w.heap.size := hk; omega))⟩
end Go.Proofs.YtamfjgioajmnpaaGreatDoor
namespace Go.Proofs.YtamfjgioajmnpaaGreatDoor
open Go.RowKit
set_option linter.unusedVariables false
set_option linter.unusedSimpArgs false

theorem TmI.set5 {w : World} {b p g bb pg tl : Nat} {F : Nat → Prop} {own : Nat → Nat} {T : TmT} (h : TmI w b p g bb pg tl F own T) : TmI (w.setCell ⟨b, 5, none⟩ (.slice none 0 0)) b p g bb pg tl F own T ∧ Keep F w (w.setCell ⟨b, 5, none⟩ (.slice none 0 0)) := by
  have hk : Keep (fun j => j = b) w (w.setCell ⟨b, 5, none⟩ (.slice none 0 0)) := (Keep.refl (fun j => j = b) w).setCell (p := ⟨b, 5, none⟩) (.inl rfl) _
  obtain ⟨h1, h2⟩ := h.put_st (m' := T.mode) hk (h.st.set 5 (.slice none 0 0))
  have hz : (w.setCell ⟨b, 5, none⟩ (.slice none 0 0)).heap.size = w.heap.size := set_size ..
  have hr : ∀ k, F k → recol own w 0 k = own k := fun k hk => cp_own h.lt hk
  refine ⟨⟨h1.st, h1.kst, h1.sp, h1.ok, ?_, ?_, h.pk, h.fb, h.fp, h.fg, h.fbb, fun k hk => by rw [hz]; exact h.lt k hk⟩, h2⟩
  · exact h.pa.keep hk (fun i hi e => cp_no h.fb (by decide) (e ▸ hi))
  · exact h.tl.keep hk (fun i hi e => cp_no h.fb (by decide) (e ▸ hi))
set_option maxRecDepth 100000 in
set_option maxHeartbeats 6400000 in
theorem trun_is {w : World} {b n c : Nat} {A : Option Addr} {F : Nat → Prop} {T : TmT} {Y : Spc} {cm pc : Int} (h : TmAt w b F T) (okY : Y.Ok) (hcm : cm = 1 ∨ cm = 2 ∨ cm = 3)
    (HR : ∀ p g, SAt w p g T.X → F p → F g → Calls Tryz.prog 230 #[.pointer (some ⟨p, 0, none⟩), .slice A n c] w fun e w' => e = .returned (.tuple #[resV cm true false true pc none 0 0, .int .i64 0]) ∧ ∃ g', (g' = g ∨ w.heap.size ≤ g') ∧ SAt w' p g' Y ∧ Keep (two p g) w w') :
    Calls Tryz.prog 183 #[.pointer (some ⟨b, 0, none⟩), .slice A n c] w fun e w' => e = .returned (.int .i64 0) ∧ TmAt w' b (Gr F w w') { T with X := Y, lock := 0, aid := 96, mode := 0 } ∧ Keep F w w' := by
  obtain ⟨own, p, g, bb, pg, tl, h⟩ := h
  have b0 := h.st.cell 0 (v := .pointer (some ⟨p, 0, none⟩)) rfl
  have zb := h.st.lt
  have H := Lib.hid h
  have HRR := Lib.hid (HR p g h.sp h.fp.1 h.fg.1)
  have HY := Lib.hid okY
  clear h HR okY
  go_enter Tryz.func183, Tryz.ntmps183
  go_wp2_with fail
  refine HRR.out.mono ?_
  rintro e w1 ⟨rfl, g', hg', hs1, hk1⟩
  obtain ⟨h1, hk1'⟩ := H.out.put_sc hk1 hs1 HY.out hg'
  have H1 := Lib.hid h1
  have HK1 := Lib.hid hk1'
  have q0 := h1.st.cell 0 (v := .pointer (some ⟨p, 0, none⟩)) rfl
  have q1 := h1.st.cell 1 (v := .pointer (some ⟨bb, 0, none⟩)) rfl
  have q4 := h1.st.cell 4 (v := .int .i64 T.mode) rfl
  have f4 := h1.st.free 4
  have zb1 := h1.st.lt
  clear hs1 hk1 h1 hk1' b0 zb
  simp only [resV]
  have hrd : (decide (5 ≤ cm) && decide (cm ≤ 7)) = false := by rcases hcm with rfl | rfl | rfl <;> rfl
  have hs8 : (cm == 8) = false := by rcases hcm with rfl | rfl | rfl <;> rfl
  have HRD := Lib.hid hrd
  clear hcm hrd
  go_wp2_with fail
  have hF := H.out.lt
  obtain ⟨h2, hk2⟩ := H1.out.put_st (m' := 0) ((Keep.refl (fun j => j = b) w1).setCell (p := ⟨b, 4, none⟩) (.inl rfl) (.int .i64 0)) (H1.out.st.set 4 (.int .i64 0))
  obtain ⟨h2, hk2⟩ := TmI.then hF HK1.out h2 hk2
  have hzs : (w1.setCell ⟨b, 4, none⟩ (.int .i64 0)).heap.size = w1.heap.size := set_size ..
  have s5 := St.new (w1.setCell ⟨b, 4, none⟩ (.int .i64 0)) 343 (resL cm true false true pc none 0 0) rfl
  rw [hzs] at s5
  obtain ⟨h3, hk3⟩ := TmI.upg hF hk2 h2 ((Up.refl (w1.setCell ⟨b, 4, none⟩ (.int .i64 0))).alloc (.cells (resL cm true false true pc none 0 0).toArray 343))
  have H3 := Lib.hid h3
  have HK3 := Lib.hid hk3
  have zbb : bb < w1.heap.size := H1.out.lt _ H1.out.fbb.1
  clear h2 hk2 h3 hk3 q0 q1 q4 f4 zb1
  rw [show (#[Value.int .i64 cm, .bool true, .bool false, .bool true, .int .i64 pc, .slice none 0 0] : Array Value) = (resL cm true false true pc none 0 0).toArray from rfl]
  generalize ((w1.setCell ⟨b, 4, none⟩ (.int .i64 0)).alloc (.cells (resL cm true false true pc none 0 0).toArray 343)) = w2 at *
  refine (krestore_is H3.out.kst).mono ?_
  rintro e w4 ⟨rfl, hst4, hk4⟩
  obtain ⟨h4, hk4'⟩ := H3.out.put_kb hk4 hst4
  obtain ⟨h4, hk4'⟩ := TmI.then hF HK3.out h4 hk4'
  have s54 := s5.keep hk4 (by show ¬ _ = _; omega)
  have c0 := s54.cell 0 (v := .int .i64 cm) rfl
  have c1 := s54.cell 1 (v := .bool true) rfl
  have c2 := s54.cell 2 (v := .bool false) rfl
  have c3 := s54.cell 3 (v := .bool true) rfl
  have c5 := s54.cell 5 (v := .slice none 0 0) rfl
  have z5 := s54.lt
  have HF := Lib.hid (And.intro h4 hk4')
  clear hst4 hk4 h4 hk4' s54 s5
  go_wp2_with fail
  refine (reads_is cm w4).mono ?_
  rw [HRD.out]
  rintro e w5 ⟨rfl, rfl⟩
  go_wp2_with fail
  go_ret
  exact ⟨rfl, ⟨_, _, _, _, _, _, HF.out.1⟩, HF.out.2⟩
set_option maxRecDepth 100000 in
set_option maxHeartbeats 6400000 in
/-- a record that the terminal takes without a word -/
theorem thost_is {w : World} {b n c : Nat} {A : Option Addr} {F : Nat → Prop} {T : TmT} {Y : Spc} {cm pc : Int} (h : TmAt w b F T) (okY : Y.Ok) (hcm : cm = 1 ∨ cm = 2 ∨ cm = 3)
    (HR : ∀ W p g, Keep F w W → SAt W p g T.X → F p → F g → Calls Tryz.prog 230 #[.pointer (some ⟨p, 0, none⟩), .slice A n c] W fun e w' => e = .returned (.tuple #[resV cm true false true pc none 0 0, .int .i64 0]) ∧ ∃ g', (g' = g ∨ W.heap.size ≤ g') ∧ SAt w' p g' Y ∧ Keep (two p g) W w') :
    Calls Tryz.prog 144 #[.pointer (some ⟨b, 0, none⟩), .slice A n c] w fun e w' => e = .returned (.tuple #[.slice none 0 0, .int .i64 0]) ∧ TmAt w' b (Gr F w w') { T with X := Y, lock := 0, aid := 96, mode := 0, V := bumpV (bumpV T.V 3 1) 2 0 } ∧ Keep F w w' := by
  obtain ⟨own, p, g, bb, pg, tl, h⟩ := h
  obtain ⟨h5, hk5⟩ := h.set5
  have HRUN := Lib.hid (trun_is (pc := pc) ⟨own, p, g, bb, pg, tl, h5⟩ okY hcm (fun p' g' hs hp hg => HR _ p' g' hk5 hs hp hg))
  have b5 := h.st.cell 5 (v := .slice none 0 0) rfl
  have f5 := h.st.free 5
  have zb := h.st.lt
  have H := Lib.hid h
  have HK5 := Lib.hid hk5
  clear h HR okY hcm h5 hk5
  go_enter Tryz.func144, Tryz.ntmps144
  go_wp2_with fail
  refine HRUN.out.mono ?_
  rintro e w1 ⟨rfl, ⟨own1, p1, g1, bb1, pg1, tl1, h1⟩, hk1⟩
  have hF := H.out.lt
  have hz5 : (w.setCell ⟨b, 5, none⟩ (.slice none 0 0)).heap.size = w.heap.size := set_size ..
  replace h1 : TmI w1 b p1 g1 bb1 pg1 tl1 (Gr F w w1) own1 _ := h1.wide (fun k hk => hk.imp id (fun h => ⟨by omega, h.2⟩)) (Gr.lt hF (HK5.out.trans hk1).size)
  have HK1 := Lib.hid (HK5.out.trans hk1)
  have H1 := Lib.hid h1
  have c5 := h1.st.cell 5 (v := .slice none 0 0) rfl
  have c3 := h1.st.cell 3 (v := .pointer (some ⟨tl1, 0, none⟩)) rfl
  have e5 := h1.st.free 5
  have zb1 := h1.st.lt
  clear h1 hk1 b5 f5 zb
  go_wp2_with fail
  obtain ⟨h6, hk6⟩ := H1.out.set5
  have hz6 : (w1.setCell ⟨b, 5, none⟩ (.slice none 0 0)).heap.size = w1.heap.size := set_size ..
  have hk6w := HK1.out.gr hk6
  replace h6 := h6.wide (G := Gr F w (w1.setCell ⟨b, 5, none⟩ (.slice none 0 0))) (fun k hk => hk.imp id (fun h => ⟨h.1, by omega⟩)) (Gr.lt hF hk6w.size)
  generalize (w1.setCell ⟨b, 5, none⟩ (.slice none 0 0)) = w6 at *
  refine (tadd_is (i := 3) h6.tl (by omega) rfl 1).mono ?_
  rintro e w7 ⟨rfl, ht7, hk7⟩
  obtain ⟨h7, hk7'⟩ := h6.put_tl hk7 ht7
  obtain ⟨h7, hk7'⟩ := TmI.then hF hk6w h7 hk7'
  have d3 := h7.st.cell 3 (v := .pointer (some ⟨tl1, 0, none⟩)) rfl
  have zb7 := h7.st.lt
  have H7 := Lib.hid h7
  have HK7 := Lib.hid hk7'
  clear h6 hk6 hk6w hz6 ht7 hk7 h7 hk7' c5 c3 e5 zb1
  go_wp2_with fail
  refine (tadd_is (i := 2) H7.out.tl (by omega) rfl 0).mono ?_
  rintro e w8 ⟨rfl, ht8, hk8⟩
  obtain ⟨h8, hk8'⟩ := H7.out.put_tl hk8 ht8
  obtain ⟨h8, hk8'⟩ := TmI.then hF HK7.out h8 hk8'
  have HF := Lib.hid (And.intro h8 hk8')
  clear ht8 hk8 h8 hk8' d3 zb7
  go_wp2_with fail
  go_ret2
  exact ⟨rfl, ⟨_, _, _, _, _, _, HF.out.1⟩, HF.out.2⟩
set_option maxRecDepth 100000 in
set_option maxHeartbeats 6400000 in
/-- a sign is pressed -/
theorem tkey_char {w : World} {b : Nat} {F : Nat → Prop} {T : TmT} {s c n : Int} (h : TmAt w b F T) (hl : T.lock = 0) (hi : T.ins = false) (hc : CharOk T.X T.k s c) :
    Calls Tryz.prog 58 #[.pointer (some ⟨b, 0, none⟩), .agg #[.int .i64 1, .int .i32 s, .int .i64 n]] w fun e w' => e = .returned (.tuple #[.slice none 0 0, .int .i64 0]) ∧ TmAt w' b (Gr F w w') { T with X := T.X.enter c, V := bumpV T.V 1 1, lock := 0, ins := false } ∧ Keep F w w' := by
  obtain ⟨own, p, g, bb, pg, tl, h⟩ := h
  have hu0 : Up w (w.alloc (.cells #[.int .i64 1, .int .i32 s, .int .i64 n] 44)) := (Up.refl w).alloc _
  have sb := St.new w 44 [.int .i64 1, .int .i32 s, .int .i64 n] rfl
  have h0 := h.up hu0
  have k3 := h0.st.cell 3 (v := .pointer (some ⟨tl, 0, none⟩)) rfl
  have zb := h0.st.lt
  have hF := Lib.hid h.lt
  have hnot : ∀ (x : Bool) (w : World), (Op.unary .not (.bool x)).run Tryz.prog w = .ok (.bool (!x)) w := fun _ _ => rfl
  have hqF : ¬ F w.heap.size := fun e => by have := h.lt _ e; omega
  have HC := Lib.hid hc
  have HL := Lib.hid (And.intro hl hi)
  have hbq : b ≠ w.heap.size := fun e => hqF (e ▸ h.fb.1)
  clear h hc hl hi
  go_enter Tryz.func58, Tryz.ntmps58
  go_wp2_with fail
  have hz0 : (w.alloc (.cells #[.int .i64 1, .int .i32 s, .int .i64 n] 44)).heap.size = w.heap.size + 1 := by simp
  have sb2 : St (w.alloc (.cells #[.int .i64 1, .int .i32 s, .int .i64 n] 44)) 44 w.heap.size [.int .i64 1, .int .i32 s, .int .i64 n] := sb
  clear sb
  generalize (w.alloc (.cells #[.int .i64 1, .int .i32 s, .int .i64 n] 44)) = W0 at *
  refine (tadd_is (i := 1) h0.tl (by omega) rfl 1).mono ?_
  rintro e w1 ⟨rfl, ht1, hk1⟩
  have s1 := sb2.keep hk1 (fun e => hqF e.1)
  obtain ⟨h1, hk1'⟩ := h0.put_tl hk1 ht1
  have z1 := hk1'.size
  have hq1 : ¬ Gr F W0 w1 w.heap.size := fun e => by rcases e with e | e; exact hqF e; omega
  have hkb := h1.kb
  have k1 := h1.st.cell 1 (v := .pointer (some ⟨bb, 0, none⟩)) rfl
  have q0 := s1.cell 0 (v := .int .i64 1) rfl
  have q1 := s1.cell 1 (v := .int .i32 s) rfl
  have q2 := s1.cell 2 (v := .int .i64 n) rfl
  have zb1 := h1.st.lt
  have zq1 := s1.lt
  have hn3 : ¬ three p g pg b := fun e => by
    rcases e with e | e | e
    · exact cp_neq h1.fb h1.fp (by decide) e
    · exact cp_neq h1.fb h1.fg (by decide) e
    · exact cp_neq h1.fb h1.pa.fb (by decide) e
  have hn4 : ¬ three p g pg w.heap.size := fun e => by
    rcases e with e | e | e
    · exact hq1 (e ▸ h1.fp.1)
    · exact hq1 (e ▸ h1.fg.1)
    · exact hq1 (e ▸ h1.pa.fb.1)
  have hlk : T.lock = 0 := HL.out.1
  have hin : T.ins = false := HL.out.2
  have hkb' : KbC w1 bb p g pg (Cp (Gr F W0 w1) (recol own W0 4) 3) T.X T.k 0 false T.aid := by
    have := hkb
    simp only [hlk, hin] at this
    exact this
  have HKP := Lib.hid (kpress_char (n := n) (hkb'.up (Up.refl w1).drew) h1.pk HC.out)
  have H1 := Lib.hid h1
  have HK1 := Lib.hid (((Keep.of_up hu0).trans hk1' : Keep F w w1))
  have H0F := Lib.hid h0.lt
  have hzd : w1.drew.heap.size = w1.heap.size := rfl
  clear h1 hk1 hk1' ht1 hkb hkb' h0 hu0 k3 zb s1 sb2 hlk hin
  obtain ⟨q, hq⟩ : ∃ q, w.heap.size = q := ⟨_, rfl⟩
  rw [hq] at q0 q1 q2 zq1 hn4 hbq ⊢
  go_wp2_with fail
  go_region_held_law (fun w' => w'.cell? ⟨b, 1, none⟩ = some (.pointer (some ⟨bb, 0, none⟩)) ∧ w'.cell? ⟨q, 0, none⟩ = some (.int .i64 1) ∧ w'.cell? ⟨q, 1, none⟩ = some (.int .i32 s) ∧ w'.cell? ⟨q, 2, none⟩ = some (.int .i64 n)) (first | exact ⟨k1, q0, q1, q2⟩ | exact ⟨s0, s1, s2, s3⟩ | go_keep) ((go_simp; go_at_call 108; refine HKP.out.mono ?_; rintro e w2 ⟨rfl, hb2, hk2⟩; obtain ⟨kc, -⟩ := hk2.at_ b (show b < w1.drew.heap.size from zb1) hn3; obtain ⟨kx, -⟩ := hk2.at_ q (show q < w1.drew.heap.size from zq1) hn4; have s0 := (kc 1).trans k1; have s1 := (kx 0).trans q0; have s2 := (kx 1).trans q1; have s3 := (kx 2).trans q2; have HB2 := Lib.hid hb2; have HK2 := Lib.hid hk2; clear hb2 hk2 kc kx))
  go_wp2_with fail
  go_ret2
  obtain ⟨h2, hk2⟩ := (H1.out.up (Up.refl w1).drew).put_key HK2.out HB2.out
  have z2 := hk2.size
  have hfin : TmI w2 b p g bb pg tl (Gr F w w2) _ _ := h2.wide (G := Gr F w w2) (fun k hk => by
    rcases hk with (hk | hk) | hk
    · exact .inl hk
    · exact .inr ⟨by omega, by omega⟩
    · exact .inr ⟨by omega, hk.2⟩) (Gr.lt hF.out (by omega))
  have hk1d : Keep F w w1.drew := HK1.out.drew
  exact ⟨rfl, ⟨_, _, _, _, _, _, hfin⟩, hk1d.gr (hk2.mono (fun k hk => hk.imp id (fun h => ⟨by omega, h.2⟩)))⟩
end Go.Proofs.YtamfjgioajmnpaaGreatDoor
