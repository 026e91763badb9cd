/-
  Where the cursor goes: cursor's Tab, BackTab, First, NewLine, Home, Move, After. No condition.
-/
import Derived.Test.YtjokcfenncogkaaOf13
namespace Go.Proofs.Ytjokcfenncogkaa
open Go.RowKit
set_option linter.unusedVariables false
set_option linter.unusedSimpArgs false

/-- where a tab from n comes to -/
def tabN (X : Spc) (n s : Int) : Int := max (X.find n s) 0
/-- the first place where one may write, from n on -/
def Spc.first (X : Spc) (n : Int) : Int := if X.open_ n then n % (X.r * X.c) else tabN X n 1
def Spc.goTo (X : Spc) (n : Int) : Spc := { X with cur := n }
theorem find_range {X : Spc} (ok : X.Ok) (n s : Int) : X.find n s = -1 ∨ (0 ≤ X.find n s ∧ X.find n s < X.r * X.c) := by
  unfold Spc.find
  cases X.far n s with
  | none => exact .inl rfl
  | some d => exact .inr ⟨Int.emod_nonneg _ (by have := Spc.pos ok; omega), Int.emod_lt_of_pos _ (Spc.pos ok)⟩
theorem tabN_bd {X : Spc} (ok : X.Ok) (n s : Int) : 0 ≤ tabN X n s ∧ tabN X n s < X.r * X.c := by
  have := find_range ok n s
  have := Spc.pos ok
  unfold tabN
  omega
theorem first_bd {X : Spc} (ok : X.Ok) (n : Int) : 0 ≤ X.first n ∧ X.first n < X.r * X.c := by
  unfold Spc.first
  split
  · exact ⟨Int.emod_nonneg _ (by have := Spc.pos ok; omega), Int.emod_lt_of_pos _ (Spc.pos ok)⟩
  · exact tabN_bd ok n 1
theorem place_goTo {X : Spc} (ok : X.Ok) {n : Int} (h0 : 0 ≤ n) (h1 : n < X.r * X.c) : X.place n = X.goTo n := by
  unfold Spc.place Spc.goTo
  rw [← (ok.wrap n).1, Int.emod_eq_of_lt h0 h1]
theorem goTo_ok {X : Spc} (ok : X.Ok) {n : Int} (h0 : 0 ≤ n) (h1 : n < X.r * X.c) : (X.goTo n).Ok :=
  ⟨ok.m2, ok.m5, ok.size, ok.len, ok.wf, ok.fit, h0, by have := ok.len; show n < (X.L.length : Int); omega⟩
theorem moveN_one {r c : Int} (h : validB r c = true) (n : Int) : moveN r c n 0 1 = (n + 1) % (r * c) := by
  obtain ⟨h0, h1, h2, h3, h4, h5⟩ := valid_facts h
  have e : moveM r c n 1 = (n + 1) % (r * c) := (Int.add_emod n 1 (r * c)).symm
  unfold moveN
  rw [e]
  have hm := mod_facts (n + 1) (r * c) h4
  generalize (n + 1) % (r * c) = m at *
  unfold atN
  have h6 : 0 ≤ m / c := Int.ediv_nonneg hm.1 (by omega)
  have h7 : m / c < r := Int.ediv_lt_of_lt_mul (by omega) hm.2
  rw [Int.zero_emod, Int.add_zero, Int.emod_eq_of_lt h6 h7, Int.emod_emod]
  have := Int.mul_ediv_add_emod m c
  rw [Int.mul_comm]; omega
theorem moveN_bd {r c : Int} (h : validB r c = true) (n a b : Int) : 0 ≤ moveN r c n a b ∧ moveN r c n a b < r * c := atN_bd h _ _
/-- behind a character was entered -/
def afterN (X : Spc) : Int :=
  if X.isA ((X.cur + 1) % (X.r * X.c)) then
    (if fP (X.at_ ((X.cur + 1) % (X.r * X.c))).fa && fN (X.at_ ((X.cur + 1) % (X.r * X.c))).fa then tabN X ((X.cur + 1) % (X.r * X.c)) 1 else ((X.cur + 1) % (X.r * X.c) + 1) % (X.r * X.c))
  else (X.cur + 1) % (X.r * X.c)
def lineN (X : Spc) : Int := atN X.r X.c (X.cur / X.c + 1) 0
theorem cur_mod {X : Spc} (ok : X.Ok) : X.cur % (X.r * X.c) = X.cur := Int.emod_eq_of_lt ok.cur0 (by have := ok.cur1; have := ok.len; omega)

theorem ctab_is {p g : Nat} {X : Spc} {w : World} (hs : SAt w p g X) (ok : X.Ok) :
    Calls Try.prog 61 #[.pointer (some ⟨p, 0, none⟩)] w fun e w' => e = .returned (.tuple #[]) ∧ SAt w' p g (X.goTo (tabN X X.cur 1)) ∧ Keep (two p g) w w' := by
  have HS := Lib.hid hs
  have H1 := Lib.hid (scur_is hs)
  have H2 := Lib.hid (fnext_is X.cur hs ok)
  have H3 := Lib.hid (fun W (h : SAt W p g X) => splace_is (tabN X X.cur 1) h ok)
  have hb := tabN_bd ok X.cur 1
  rw [place_goTo ok hb.1 hb.2] at H3
  have hf := find_range ok X.cur 1
  obtain ⟨Y, hY⟩ : ∃ Y, X.goTo (tabN X X.cur 1) = Y := ⟨_, rfl⟩
  rw [hY] at H3 ⊢
  clear hY hb
  unfold tabN at H3
  generalize X.find X.cur 1 = v at *
  generalize X.cur = c at *
  clear hs
  go_enter Try.func61, Try.ntmps61
  go_wp2_with fail
  refine H1.out.mono ?_
  rintro e w1 ⟨rfl, rfl⟩
  go_wp2_with fail
  refine H2.out.mono ?_
  rintro e w2 ⟨rfl, hu2⟩
  have HU2 := Lib.hid hu2
  clear hu2
  rcases hf with rfl | ⟨f0, f1⟩
  all_goals
    (first | rw [show max (-1 : Int) 0 = 0 by decide] at H3 | rw [show max v 0 = v by omega] at H3)
    go_wp2_with fail
    refine (H3.out _ (HS.out.up HU2.out)).mono ?_
    rintro e w3 ⟨rfl, hs3, hk3⟩
    go_wp2_with fail
    go_end0
    exact ⟨rfl, hs3, (Keep.of_up HU2.out).trans hk3⟩
theorem cback_is {p g : Nat} {X : Spc} {w : World} (hs : SAt w p g X) (ok : X.Ok) :
    Calls Try.prog 63 #[.pointer (some ⟨p, 0, none⟩)] w fun e w' => e = .returned (.tuple #[]) ∧ SAt w' p g (X.goTo (tabN X X.cur (-1))) ∧ Keep (two p g) w w' := by
  have HS := Lib.hid hs
  have H1 := Lib.hid (scur_is hs)
  have H2 := Lib.hid (fprev_is X.cur hs ok)
  have H3 := Lib.hid (fun W (h : SAt W p g X) => splace_is (tabN X X.cur (-1)) h ok)
  have hb := tabN_bd ok X.cur (-1)
  rw [place_goTo ok hb.1 hb.2] at H3
  have hf := find_range ok X.cur (-1)
  obtain ⟨Y, hY⟩ : ∃ Y, X.goTo (tabN X X.cur (-1)) = Y := ⟨_, rfl⟩
  rw [hY] at H3 ⊢
  clear hY hb
  unfold tabN at H3
  generalize X.find X.cur (-1) = v at *
  generalize X.cur = c at *
  clear hs
  go_enter Try.func63, Try.ntmps63
  go_wp2_with fail
  refine H1.out.mono ?_
  rintro e w1 ⟨rfl, rfl⟩
  go_wp2_with fail
  refine H2.out.mono ?_
  rintro e w2 ⟨rfl, hu2⟩
  have HU2 := Lib.hid hu2
  clear hu2
  rcases hf with rfl | ⟨f0, f1⟩
  all_goals
    (first | rw [show max (-1 : Int) 0 = 0 by decide] at H3 | rw [show max v 0 = v by omega] at H3)
    go_wp2_with fail
    refine (H3.out _ (HS.out.up HU2.out)).mono ?_
    rintro e w3 ⟨rfl, hs3, hk3⟩
    go_wp2_with fail
    go_end0
    exact ⟨rfl, hs3, (Keep.of_up HU2.out).trans hk3⟩
set_option maxHeartbeats 800000 in
theorem cfirst_is {p g : Nat} {X : Spc} {w : World} (n : Int) (hs : SAt w p g X) (ok : X.Ok) :
    Calls Try.prog 43 #[.pointer (some ⟨p, 0, none⟩), .int .i64 n] w fun e w' => e = .returned (.int .i64 (X.first n)) ∧ Up w w' := by
  have HS := Lib.hid hs
  have H1 := Lib.hid (fopen_is n hs ok)
  have H2 := Lib.hid (fun W (h : SAt W p g X) => fnext_is n h ok)
  have H3 := Lib.hid (fun W (h : SAt W p g X) => ssize_is h)
  have H4 := Lib.hid (fun W => wrap_good X.r X.c n W ok.valid)
  have hf := find_range ok n 1
  have hr : X.first n = if X.open_ n then n % (X.r * X.c) else max (X.find n 1) 0 := rfl
  rw [hr]
  clear hr hs
  generalize X.find n 1 = v at *
  generalize X.r * X.c = M at *
  generalize X.r = r at *
  generalize X.c = c at *
  generalize X.open_ n = o at *
  clear ok
  cases o
  · rcases hf with rfl | ⟨f0, f1⟩
    all_goals
      go_enter Try.func43, Try.ntmps43
      go_wp2_with fail
      refine H1.out.mono ?_
      rintro e w1 ⟨rfl, hu1⟩
      go_wp2_with fail
      refine (H2.out _ (HS.out.up hu1)).mono ?_
      rintro e w2 ⟨rfl, hu2⟩
      go_wp2_with fail
      go_ret
      exact ⟨ret_int (by first | rfl | omega | (simp; omega)), hu1.trans hu2⟩
  · go_enter Try.func43, Try.ntmps43
    go_wp2_with fail
    refine H1.out.mono ?_
    rintro e w1 ⟨rfl, hu1⟩
    go_wp2_with fail
    refine (H3.out _ (HS.out.up hu1)).mono ?_
    rintro e w2 ⟨rfl, hu2⟩
    have HU := Lib.hid (hu1.trans hu2)
    clear hu1 hu2
    go_wp2_with fail
    refine (H4.out _).mono ?_
    rintro e w3 ⟨rfl, hu3⟩
    have HU3 := Lib.hid hu3
    clear hu3
    go_wp2_with fail
    go_ret
    exact ⟨by simp, HU.out.trans HU3.out⟩
theorem chome_is {p g : Nat} {X : Spc} {w : World} (hs : SAt w p g X) (ok : X.Ok) :
    Calls Try.prog 45 #[.pointer (some ⟨p, 0, none⟩)] w fun e w' => e = .returned (.tuple #[]) ∧ SAt w' p g (X.goTo (X.first 0)) ∧ Keep (two p g) w w' := by
  have HS := Lib.hid hs
  have H1 := Lib.hid (cfirst_is 0 hs ok)
  have H3 := Lib.hid (fun W (h : SAt W p g X) => splace_is (X.first 0) h ok)
  have hb := first_bd ok 0
  rw [place_goTo ok hb.1 hb.2] at H3
  clear hb
  generalize X.first 0 = v at *
  clear hs
  go_enter Try.func45, Try.ntmps45
  go_wp2_with fail
  refine H1.out.mono ?_
  rintro e w2 ⟨rfl, hu2⟩
  have HU2 := Lib.hid hu2
  clear hu2
  go_wp2_with fail
  refine (H3.out _ (HS.out.up HU2.out)).mono ?_
  rintro e w3 ⟨rfl, hs3, hk3⟩
  go_wp2_with fail
  go_end0
  exact ⟨rfl, hs3, (Keep.of_up HU2.out).trans hk3⟩
set_option maxHeartbeats 800000 in
theorem cline_is {p g : Nat} {X : Spc} {w : World} (hs : SAt w p g X) (ok : X.Ok) :
    Calls Try.prog 89 #[.pointer (some ⟨p, 0, none⟩)] w fun e w' => e = .returned (.tuple #[]) ∧ SAt w' p g (X.goTo (X.first (lineN X))) ∧ Keep (two p g) w w' := by
  have HS := Lib.hid hs
  have H0 := Lib.hid (ssize_is hs)
  have H1 := Lib.hid (fun W (h : SAt W p g X) => scur_is h)
  have HL := Lib.hid (fun W => line_good X.r X.c X.cur W ok.valid)
  rw [cur_mod ok] at HL
  have H2 := Lib.hid (fun W (h : SAt W p g X) => cfirst_is (lineN X) h ok)
  have H3 := Lib.hid (fun W (h : SAt W p g X) => splace_is (X.first (lineN X)) h ok)
  have hb := first_bd ok (lineN X)
  rw [place_goTo ok hb.1 hb.2] at H3
  clear hb
  generalize X.first (lineN X) = v at *
  unfold lineN at H2
  generalize atN X.r X.c (X.cur / X.c + 1) 0 = l at *
  generalize X.r = r at *
  generalize X.c = c at *
  generalize X.cur = cu at *
  clear hs ok
  go_enter Try.func89, Try.ntmps89
  go_wp2_with fail
  refine H0.out.mono ?_
  rintro e w1 ⟨rfl, hu1⟩
  have HU1 := Lib.hid hu1
  clear hu1
  go_wp2_with fail
  refine (H1.out _ (HS.out.up HU1.out)).mono ?_
  rintro e w2 ⟨rfl, rfl⟩
  go_wp2_with fail
  refine (HL.out _).mono ?_
  rintro e w2 ⟨rfl, hu2⟩
  have HU2 := Lib.hid (HU1.out.trans hu2)
  clear hu2
  go_wp2_with fail
  refine (H2.out _ (HS.out.up HU2.out)).mono ?_
  rintro e w3 ⟨rfl, hu3⟩
  have HU3 := Lib.hid (HU2.out.trans hu3)
  clear hu3
  go_wp2_with fail
  refine (H3.out _ (HS.out.up HU3.out)).mono ?_
  rintro e w4 ⟨rfl, hs4, hk4⟩
  go_wp2_with fail
  go_end0
  exact ⟨rfl, hs4, (Keep.of_up HU3.out).trans hk4⟩
set_option maxHeartbeats 800000 in
theorem cmove_is {p g : Nat} {X : Spc} {w : World} (rows cols : Int) (hs : SAt w p g X) (ok : X.Ok) :
    Calls Try.prog 90 #[.pointer (some ⟨p, 0, none⟩), .int .i64 rows, .int .i64 cols] w fun e w' => e = .returned (.tuple #[]) ∧ SAt w' p g (X.goTo (moveN X.r X.c X.cur rows cols)) ∧ Keep (two p g) w w' := by
  have HS := Lib.hid hs
  have H0 := Lib.hid (ssize_is hs)
  have H1 := Lib.hid (fun W (h : SAt W p g X) => scur_is h)
  have HL := Lib.hid (fun W => move_good X.r X.c X.cur rows cols W ok.valid)
  have H3 := Lib.hid (fun W (h : SAt W p g X) => splace_is (moveN X.r X.c X.cur rows cols) h ok)
  have hb := moveN_bd ok.valid X.cur rows cols
  rw [place_goTo ok hb.1 hb.2] at H3
  clear hb
  generalize moveN X.r X.c X.cur rows cols = v at *
  generalize X.r = r at *
  generalize X.c = c at *
  generalize X.cur = cu at *
  clear hs ok
  go_enter Try.func90, Try.ntmps90
  go_wp2_with fail
  refine H0.out.mono ?_
  rintro e w1 ⟨rfl, hu1⟩
  have HU1 := Lib.hid hu1
  clear hu1
  go_wp2_with fail
  refine (H1.out _ (HS.out.up HU1.out)).mono ?_
  rintro e w2 ⟨rfl, rfl⟩
  go_wp2_with fail
  refine (HL.out _).mono ?_
  rintro e w2 ⟨rfl, hu2⟩
  have HU2 := Lib.hid (HU1.out.trans hu2)
  clear hu2
  go_wp2_with fail
  refine (H3.out _ (HS.out.up HU2.out)).mono ?_
  rintro e w4 ⟨rfl, hs4, hk4⟩
  go_wp2_with fail
  go_end0
  exact ⟨rfl, hs4, (Keep.of_up HU2.out).trans hk4⟩
set_option maxHeartbeats 1600000 in
theorem cafter_is {p g : Nat} {X : Spc} {w : World} (hs : SAt w p g X) (ok : X.Ok) :
    Calls Try.prog 91 #[.pointer (some ⟨p, 0, none⟩)] w fun e w' => e = .returned (.tuple #[]) ∧ SAt w' p g (X.goTo (afterN X)) ∧ Keep (two p g) w w' := by
  have fC := fldC1
  have hm0 := Spc.pos ok
  obtain ⟨k, hk⟩ : ∃ k, (X.cur + 1) % (X.r * X.c) = k := ⟨_, rfl⟩
  have k0 : 0 ≤ k := by rw [← hk]; exact Int.emod_nonneg _ (by omega)
  have k1 : k < X.r * X.c := by rw [← hk]; exact Int.emod_lt_of_pos _ hm0
  have H1 := Lib.hid (cmove_is 0 1 hs ok)
  rw [moveN_one ok.valid, hk] at H1
  have ok1 := goTo_ok ok k0 k1
  have hA : afterN X = if X.isA k then (if fP (X.at_ k).fa && fN (X.at_ k).fa then tabN X k 1 else (k + 1) % (X.r * X.c)) else k := by unfold afterN; rw [hk]
  obtain ⟨d, hd⟩ : ∃ d, X.at_ k = d := ⟨_, rfl⟩
  have hfa := Spc.fa_at ok k
  have hI : X.isA k = d.at_ := by unfold Spc.isA; rw [hd]
  rw [hd] at hfa hA
  rw [hI] at hA
  have H2 := Lib.hid (fun W (h : SAt W p g (X.goTo k)) => scur_is h)
  have H3 := Lib.hid (fun W (h : SAt W p g (X.goTo k)) => sat_op k h ok1 (show (X.goTo k).at_ k = d from hd))
  have H4 := Lib.hid (fun W => of_any d.fa W hfa.1 hfa.2)
  have H5 := Lib.hid (fun W => skipped_any (fP d.fa) (fN d.fa) (fM d.fa) (fD d.fa) W)
  have H6 := Lib.hid (fun W (h : SAt W p g (X.goTo k)) => ctab_is h ok1)
  have H7 := Lib.hid (fun W (h : SAt W p g (X.goTo k)) => cmove_is 0 1 h ok1)
  have hmv : moveN (X.goTo k).r (X.goTo k).c (X.goTo k).cur 0 1 = (k + 1) % (X.r * X.c) := moveN_one ok.valid k
  rw [hmv] at H7
  have e6 : (X.goTo k).goTo (tabN (X.goTo k) (X.goTo k).cur 1) = X.goTo (tabN X k 1) := rfl
  have e7 : (X.goTo k).goTo ((k + 1) % (X.r * X.c)) = X.goTo ((k + 1) % (X.r * X.c)) := rfl
  have e8 : (X.goTo k).cur = k := rfl
  rw [e6] at H6
  rw [e7] at H7
  rw [e8] at H2
  rw [hA]
  clear hd hI hfa hA hmv e6 e7 e8 hk
  obtain ⟨ch, at_, fa, hi, co, se⟩ := d
  simp only at *
  generalize fP fa = b0 at *
  generalize fN fa = b1 at *
  generalize fD fa = b2 at *
  generalize fM fa = b3 at *
  generalize tabN X k 1 = n6 at *
  generalize (k + 1) % (X.r * X.c) = n7 at *
  clear hs ok ok1 k0 k1 hm0
  obtain ⟨Y, hY⟩ : ∃ Y, X.goTo (if at_ = true then (if (b0 && b1) = true then n6 else n7) else k) = Y := ⟨_, rfl⟩
  rw [hY]
  have HY := Lib.hid hY
  clear hY
  go_enter Try.func91, Try.ntmps91
  go_wp2_with fail
  refine H1.out.mono ?_
  rintro e w1 ⟨rfl, hs1, hk1⟩
  have HS1 := Lib.hid hs1
  have HK1 := Lib.hid hk1
  clear hs1 hk1
  go_wp2_with fail
  refine (H2.out _ HS1.out).mono ?_
  rintro e w2 ⟨rfl, rfl⟩
  go_wp2_with fail
  refine (H3.out _ HS1.out).mono ?_
  rintro e w3 ⟨rfl, hu3⟩
  have HU3 := Lib.hid hu3
  clear hu3
  cases at_
  · go_wp2_with fail
    go_end0
    exact ⟨rfl, by rw [← HY.out]; exact HS1.out.up (HU3.out.alloc _), HK1.out.up (HU3.out.alloc _)⟩
  · go_wp2_with fail
    refine (H4.out _).mono ?_
    rintro e w4 ⟨rfl, hu4⟩
    have HU4 := Lib.hid ((HU3.out.alloc _).trans hu4)
    clear hu4
    go_wp2_with fail
    refine (H5.out _).mono ?_
    rintro e w5 ⟨rfl, hu5⟩
    have HU5 := Lib.hid (HU4.out.trans hu5)
    clear hu5
    obtain ⟨bb, hbb⟩ : ∃ bb, (b0 && b1) = bb := ⟨_, rfl⟩
    rw [hbb]
    have HB := Lib.hid hbb
    clear hbb
    cases bb
    · go_wp2_with fail
      refine (H7.out _ (HS1.out.up HU5.out)).mono ?_
      rintro e w6 ⟨rfl, hs6, hk6⟩
      go_wp2_with fail
      go_end0
      exact ⟨rfl, by rw [← HY.out, HB.out]; exact hs6, (HK1.out.up HU5.out).trans hk6⟩
    · go_wp2_with fail
      refine (H6.out _ (HS1.out.up HU5.out)).mono ?_
      rintro e w6 ⟨rfl, hs6, hk6⟩
      go_wp2_with fail
      go_end0
      exact ⟨rfl, by rw [← HY.out, HB.out]; exact hs6, (HK1.out.up HU5.out).trans hk6⟩
end Go.Proofs.Ytjokcfenncogkaa
