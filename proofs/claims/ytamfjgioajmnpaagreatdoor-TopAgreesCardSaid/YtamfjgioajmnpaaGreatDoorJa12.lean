/-
Where the cursor goes: cursor's Tab, BackTab, First, NewLine, Home, Move, After. No condition.
A pen as it lies; its cell, next, put, to. No condition.
order's scanner: how it lies; fail, take. No condition but the slice's own reach.
order's names and what an order begins with, and the document's. No condition.
order's scanner: take when there is too little, Is, addr. No condition but the slice's own reach.
-/
import Derived.Test.YtamfjgioajmnpaaGreatDoorJa11
import Derived.Test.YtamfjgioajmnpaaGreatDoorJa2
import Derived.Test.YtamfjgioajmnpaaGreatDoorJa4
import Derived.Laws.MakeOwn
namespace Go.Proofs.YtamfjgioajmnpaaGreatDoor
open Go.RowKit
set_option linter.unusedVariables false
set_option linter.unusedSimpArgs false

/-- where a tab from n comes to -/
def tabN (X : Spc) (n s : Int) : Int := max (X.find n s) 0
def Spc.goTo (X : Spc) (n : Int) : Spc := { X with cur := n }
theorem find_range {X : Spc} (ok : X.Ok) (n s : Int) : X.find n s = -1 ∨ (0 ≤ X.find n s ∧ X.find n s < X.r * X.c) := by
  unfold Spc.find
  cases X.far n s with
  | none => exact .inl rfl
  | some d => exact .inr ⟨Int.emod_nonneg _ (by have := Spc.pos ok; omega), Int.emod_lt_of_pos _ (Spc.pos ok)⟩
theorem tabN_bd {X : Spc} (ok : X.Ok) (n s : Int) : 0 ≤ tabN X n s ∧ tabN X n s < X.r * X.c := by
  have := find_range ok n s
  have := Spc.pos ok
  unfold tabN
  omega
theorem place_goTo {X : Spc} (ok : X.Ok) {n : Int} (h0 : 0 ≤ n) (h1 : n < X.r * X.c) : X.place n = X.goTo n := by
  unfold Spc.place Spc.goTo
  rw [← (ok.wrap n).1, Int.emod_eq_of_lt h0 h1]
theorem goTo_ok {X : Spc} (ok : X.Ok) {n : Int} (h0 : 0 ≤ n) (h1 : n < X.r * X.c) : (X.goTo n).Ok :=
  ⟨ok.m2, ok.m5, ok.size, ok.len, ok.wf, ok.fit, h0, by have := ok.len; show n < (X.L.length : Int); omega⟩
theorem moveN_one {r c : Int} (h : validB r c = true) (n : Int) : moveN r c n 0 1 = (n + 1) % (r * c) := by
  obtain ⟨h0, h1, h2, h3, h4, h5⟩ := valid_facts h
  have e : moveM r c n 1 = (n + 1) % (r * c) := (Int.add_emod n 1 (r * c)).symm
  unfold moveN
  rw [e]
  have hm := mod_facts (n + 1) (r * c) h4
  generalize (n + 1) % (r * c) = m at *
  unfold atN
  have h6 : 0 ≤ m / c := Int.ediv_nonneg hm.1 (by omega)
  have h7 : m / c < r := Int.ediv_lt_of_lt_mul (by omega) hm.2
  rw [Int.zero_emod, Int.add_zero, Int.emod_eq_of_lt h6 h7, Int.emod_emod]
  have := Int.mul_ediv_add_emod m c
  rw [Int.mul_comm]; omega
theorem moveN_bd {r c : Int} (h : validB r c = true) (n a b : Int) : 0 ≤ moveN r c n a b ∧ moveN r c n a b < r * c := atN_bd h _ _
/-- behind a character was entered -/
def afterN (X : Spc) : Int :=
  if X.isA ((X.cur + 1) % (X.r * X.c)) then
    (if fP (X.at_ ((X.cur + 1) % (X.r * X.c))).fa && fN (X.at_ ((X.cur + 1) % (X.r * X.c))).fa then tabN X ((X.cur + 1) % (X.r * X.c)) 1 else ((X.cur + 1) % (X.r * X.c) + 1) % (X.r * X.c))
  else (X.cur + 1) % (X.r * X.c)
theorem ctab_is {p g : Nat} {X : Spc} {w : World} (hs : SAt w p g X) (ok : X.Ok) :
    Calls Tryz.prog 193 #[.pointer (some ⟨p, 0, none⟩)] w fun e w' => e = .returned (.tuple #[]) ∧ SAt w' p g (X.goTo (tabN X X.cur 1)) ∧ Keep (two p g) w w' := by
  have HS := Lib.hid hs
  have H1 := Lib.hid (scur_is hs)
  have H2 := Lib.hid (fnext_is X.cur hs ok)
  have H3 := Lib.hid (fun W (h : SAt W p g X) => splace_is (tabN X X.cur 1) h ok)
  have hb := tabN_bd ok X.cur 1
  rw [place_goTo ok hb.1 hb.2] at H3
  have hf := find_range ok X.cur 1
  obtain ⟨Y, hY⟩ : ∃ Y, X.goTo (tabN X X.cur 1) = Y := ⟨_, rfl⟩
  rw [hY] at H3 ⊢
  clear hY hb
  unfold tabN at H3
  generalize X.find X.cur 1 = v at *
  generalize X.cur = c at *
  clear hs
  go_enter Tryz.func193, Tryz.ntmps193
  go_wp2_with fail
  refine H1.out.mono ?_
  rintro e w1 ⟨rfl, rfl⟩
  go_wp2_with fail
  refine H2.out.mono ?_
  rintro e w2 ⟨rfl, hu2⟩
  have HU2 := Lib.hid hu2
  clear hu2
  rcases hf with rfl | ⟨f0, f1⟩
  all_goals
    (first | rw [show max (-1 : Int) 0 = 0 by decide] at H3 | rw [show max v 0 = v by omega] at H3)
    go_wp2_with fail
    refine (H3.out _ (HS.out.up HU2.out)).mono ?_
    rintro e w3 ⟨rfl, hs3, hk3⟩
    go_wp2_with fail
    go_end0
    exact ⟨rfl, hs3, (Keep.of_up HU2.out).trans hk3⟩
set_option maxHeartbeats 800000 in
theorem cmove_is {p g : Nat} {X : Spc} {w : World} (rows cols : Int) (hs : SAt w p g X) (ok : X.Ok) :
    Calls Tryz.prog 197 #[.pointer (some ⟨p, 0, none⟩), .int .i64 rows, .int .i64 cols] w fun e w' => e = .returned (.tuple #[]) ∧ SAt w' p g (X.goTo (moveN X.r X.c X.cur rows cols)) ∧ Keep (two p g) w w' := by
  have HS := Lib.hid hs
  have H0 := Lib.hid (ssize_is hs)
  have H1 := Lib.hid (fun W (h : SAt W p g X) => scur_is h)
  have HL := Lib.hid (fun W => move_good X.r X.c X.cur rows cols W ok.valid)
  have H3 := Lib.hid (fun W (h : SAt W p g X) => splace_is (moveN X.r X.c X.cur rows cols) h ok)
  have hb := moveN_bd ok.valid X.cur rows cols
  rw [place_goTo ok hb.1 hb.2] at H3
  clear hb
  generalize moveN X.r X.c X.cur rows cols = v at *
  generalize X.r = r at *
  generalize X.c = c at *
  generalize X.cur = cu at *
  clear hs ok
  go_enter Tryz.func197, Tryz.ntmps197
  go_wp2_with fail
  refine H0.out.mono ?_
  rintro e w1 ⟨rfl, hu1⟩
  have HU1 := Lib.hid hu1
  clear hu1
  go_wp2_with fail
  refine (H1.out _ (HS.out.up HU1.out)).mono ?_
  rintro e w2 ⟨rfl, rfl⟩
  go_wp2_with fail
  refine (HL.out _).mono ?_
  rintro e w2 ⟨rfl, hu2⟩
  have HU2 := Lib.hid (HU1.out.trans hu2)
  clear hu2
  go_wp2_with fail
  refine (H3.out _ (HS.out.up HU2.out)).mono ?_
  rintro e w4 ⟨rfl, hs4, hk4⟩
  go_wp2_with fail
  go_end0
  exact ⟨rfl, hs4, (Keep.of_up HU2.out).trans hk4⟩
set_option maxHeartbeats 1600000 in
theorem cafter_is {p g : Nat} {X : Spc} {w : World} (hs : SAt w p g X) (ok : X.Ok) :
    Calls Tryz.prog 252 #[.pointer (some ⟨p, 0, none⟩)] w fun e w' => e = .returned (.tuple #[]) ∧ SAt w' p g (X.goTo (afterN X)) ∧ Keep (two p g) w w' := by
  have fC := fldC1
  have hm0 := Spc.pos ok
  obtain ⟨k, hk⟩ : ∃ k, (X.cur + 1) % (X.r * X.c) = k := ⟨_, rfl⟩
  have k0 : 0 ≤ k := by rw [← hk]; exact Int.emod_nonneg _ (by omega)
  have k1 : k < X.r * X.c := by rw [← hk]; exact Int.emod_lt_of_pos _ hm0
  have H1 := Lib.hid (cmove_is 0 1 hs ok)
  rw [moveN_one ok.valid, hk] at H1
  have ok1 := goTo_ok ok k0 k1
  have hA : afterN X = if X.isA k then (if fP (X.at_ k).fa && fN (X.at_ k).fa then tabN X k 1 else (k + 1) % (X.r * X.c)) else k := by unfold afterN; rw [hk]
  obtain ⟨d, hd⟩ : ∃ d, X.at_ k = d := ⟨_, rfl⟩
  have hfa := Spc.fa_at ok k
  have hI : X.isA k = d.at_ := by unfold Spc.isA; rw [hd]
  rw [hd] at hfa hA
  rw [hI] at hA
  have H2 := Lib.hid (fun W (h : SAt W p g (X.goTo k)) => scur_is h)
  have H3 := Lib.hid (fun W (h : SAt W p g (X.goTo k)) => sat_op k h ok1 (show (X.goTo k).at_ k = d from hd))
  have H4 := Lib.hid (fun W => of_any d.fa W hfa.1 hfa.2)
  have H5 := Lib.hid (fun W => skipped_any (fP d.fa) (fN d.fa) (fM d.fa) (fD d.fa) W)
  have H6 := Lib.hid (fun W (h : SAt W p g (X.goTo k)) => ctab_is h ok1)
  have H7 := Lib.hid (fun W (h : SAt W p g (X.goTo k)) => cmove_is 0 1 h ok1)
  have hmv : moveN (X.goTo k).r (X.goTo k).c (X.goTo k).cur 0 1 = (k + 1) % (X.r * X.c) := moveN_one ok.valid k
  rw [hmv] at H7
  have e6 : (X.goTo k).goTo (tabN (X.goTo k) (X.goTo k).cur 1) = X.goTo (tabN X k 1) := rfl
  have e7 : (X.goTo k).goTo ((k + 1) % (X.r * X.c)) = X.goTo ((k + 1) % (X.r * X.c)) := rfl
  have e8 : (X.goTo k).cur = k := rfl
  rw [e6] at H6
  rw [e7] at H7
  rw [e8] at H2
  rw [hA]
  clear hd hI hfa hA hmv e6 e7 e8 hk
  obtain ⟨ch, at_, fa, hi, co, se⟩ := d
  simp only at *
  generalize fP fa = b0 at *
  generalize fN fa = b1 at *
  generalize fD fa = b2 at *
  generalize fM fa = b3 at *
  generalize tabN X k 1 = n6 at *
  generalize (k + 1) % (X.r * X.c) = n7 at *
  clear hs ok ok1 k0 k1 hm0
  obtain ⟨Y, hY⟩ : ∃ Y, X.goTo (if at_ = true then (if (b0 && b1) = true then n6 else n7) else k) = Y := ⟨_, rfl⟩
  rw [hY]
  have HY := Lib.hid hY
  clear hY
  go_enter Tryz.func252, Tryz.ntmps252
  go_wp2_with fail
  refine H1.out.mono ?_
  rintro e w1 ⟨rfl, hs1, hk1⟩
  have HS1 := Lib.hid hs1
  have HK1 := Lib.hid hk1
  clear hs1 hk1
  go_wp2_with fail
  refine (H2.out _ HS1.out).mono ?_
  rintro e w2 ⟨rfl, rfl⟩
  go_wp2_with fail
  refine (H3.out _ HS1.out).mono ?_
  rintro e w3 ⟨rfl, hu3⟩
  have HU3 := Lib.hid hu3
  clear hu3
  cases at_
  · go_wp2_with fail
    go_end0
    exact ⟨rfl, by rw [← HY.out]; exact HS1.out.up (HU3.out.alloc _), HK1.out.up (HU3.out.alloc _)⟩
  · go_wp2_with fail
    refine (H4.out _).mono ?_
    rintro e w4 ⟨rfl, hu4⟩
    have HU4 := Lib.hid ((HU3.out.alloc _).trans hu4)
    clear hu4
    go_wp2_with fail
    refine (H5.out _).mono ?_
    rintro e w5 ⟨rfl, hu5⟩
    have HU5 := Lib.hid (HU4.out.trans hu5)
    clear hu5
    obtain ⟨bb, hbb⟩ : ∃ bb, (b0 && b1) = bb := ⟨_, rfl⟩
    rw [hbb]
    have HB := Lib.hid hbb
    clear hbb
    cases bb
    · go_wp2_with fail
      refine (H7.out _ (HS1.out.up HU5.out)).mono ?_
      rintro e w6 ⟨rfl, hs6, hk6⟩
      go_wp2_with fail
      go_end0
      exact ⟨rfl, by rw [← HY.out, HB.out]; exact hs6, (HK1.out.up HU5.out).trans hk6⟩
    · go_wp2_with fail
      refine (H6.out _ (HS1.out.up HU5.out)).mono ?_
      rintro e w6 ⟨rfl, hs6, hk6⟩
      go_wp2_with fail
      go_end0
      exact ⟨rfl, by rw [← HY.out, HB.out]; exact hs6, (HK1.out.up HU5.out).trans hk6⟩
end Go.Proofs.YtamfjgioajmnpaaGreatDoor
namespace Go.Proofs.YtamfjgioajmnpaaGreatDoor
open Go.RowKit
set_option linter.unusedVariables false
set_option linter.unusedSimpArgs false

def penVals (p : Nat) (n : Int) (k : Cl) (tx : Bool) : List Value := [.pointer (some ⟨p, 0, none⟩), .int .i64 n, .int .u8 k.ch, .bool k.at_, .int .u8 k.fa, .int .u8 k.hi, .int .u8 k.co, .int .u8 k.se, .bool tx]
/-- a pen and its screen -/
structure PenC (w : World) (pb p g : Nat) (X : Spc) (n : Int) (k : Cl) (tx : Bool) : Prop where
  st : St w 458 pb (penVals p n k tx)
  sp : SAt w p g X
  ok : X.Ok
  kw : k.Wf
  n1 : pb ≠ p
  n2 : pb ≠ g
  b0 : 0 ≤ n
  b1 : n < X.r * X.c
section
variable {w w' : World} {pb p g : Nat} {E : Nat → Prop} {X Y : Spc} {n m : Int} {k l : Cl} {tx ty : Bool}
theorem PenC.up (h : PenC w pb p g X n k tx) (hu : Up w w') : PenC w' pb p g X n k tx := ⟨h.st.up hu, h.sp.up hu, h.ok, h.kw, h.n1, h.n2, h.b0, h.b1⟩
theorem PenC.two (h : PenC w pb p g X n k tx) (hk : Keep (two p g) w w') (hs : SAt w' p g Y) (ok : Y.Ok) (hr : Y.r * Y.c = X.r * X.c) : PenC w' pb p g Y n k tx :=
  ⟨h.st.keep hk (fun e => e.elim h.n1 h.n2), hs, ok, h.kw, h.n1, h.n2, h.b0, by rw [hr]; exact h.b1⟩
theorem PenC.put (h : PenC w pb p g X n k tx) (hk : Keep (fun j => j = pb) w w') (hs : St w' 458 pb (penVals p m l ty)) (kw : l.Wf) (b0 : 0 ≤ m) (b1 : m < X.r * X.c) : PenC w' pb p g X m l ty :=
  ⟨hs, h.sp.held hk (fun e => h.n1 e.symm) (fun e => h.n2 e.symm), h.ok, kw, h.n1, h.n2, b0, b1⟩
end
/-- a pen's and its screen's blocks -/
def pen3 (pb p g : Nat) : Nat → Prop := fun j => j = pb ∨ j = p ∨ j = g
theorem wf_ch {k : Cl} (h : k.Wf) {c : Int} (hc : isB c) : Cl.Wf { k with ch := c } := ⟨hc, h.fa, h.hi, h.co, h.se⟩
theorem wf_gr {k : Cl} (h : k.Wf) {c : Int} (hc : isB c) : Cl.Wf { k with ch := c, se := 241 } := ⟨hc, h.fa, h.hi, h.co, by simp [isB]⟩
/-- a character as it is written now -/
def penCl (k : Cl) (c : Int) (gr : Bool) : Cl := if gr then { k with ch := c, se := 241 } else { k with ch := c }
theorem penCl_wf {k : Cl} (h : k.Wf) {c : Int} (hc : isB c) (gr : Bool) : (penCl k c gr).Wf := by
  unfold penCl
  split
  · exact wf_gr h hc
  · exact wf_ch h hc
set_option maxRecDepth 100000 in
set_option maxHeartbeats 1600000 in
theorem pcell_is {w : World} {pb p : Nat} {n : Int} {k : Cl} {tx : Bool} (h : St w 458 pb (penVals p n k tx)) (c : Int) (gr : Bool) {d : Cl} (hd : penCl k c gr = d) :
    Calls Tryz.prog 409 #[.pointer (some ⟨pb, 0, none⟩), .int .u8 c, .bool gr] w fun e w' => e = .returned (.agg #[.int .u8 d.ch, .bool d.at_, .int .u8 d.fa, .int .u8 d.hi, .int .u8 d.co, .int .u8 d.se]) ∧ Up w w' := by
  have zb := h.lt
  have k2 := h.cell 2 (v := .int .u8 k.ch) rfl
  have k3 := h.cell 3 (v := .bool k.at_) rfl
  have k4 := h.cell 4 (v := .int .u8 k.fa) rfl
  have k5 := h.cell 5 (v := .int .u8 k.hi) rfl
  have k6 := h.cell 6 (v := .int .u8 k.co) rfl
  have k7 := h.cell 7 (v := .int .u8 k.se) rfl
  clear h
  subst hd
  cases gr
  all_goals
    go_enter Tryz.func409, Tryz.ntmps409
    go_wp2_with fail
    refine bodyPost_ret (v := (penCl k c _).val) (by simp [results, Tryz.results409, go_sem, penCl, Cl.val]) rfl ⟨rfl, by (repeat (first | with_reducible exact Up.refl _ | with_reducible refine Up.alloc ?_ _ | with_reducible refine Up.drew ?_ | with_reducible refine Up.drewN ?_ _ | with_reducible refine Up.setCell ?_ (by (try simp) <;> omega) _ | with_reducible assumption | with_reducible refine Up.trans ?_ (by assumption)))⟩
set_option maxRecDepth 100000 in
set_option maxHeartbeats 1600000 in
theorem pnext_is {w : World} {pb p g : Nat} {X : Spc} {n : Int} {k : Cl} {tx : Bool} (h : PenC w pb p g X n k tx) :
    Calls Tryz.prog 410 #[.pointer (some ⟨pb, 0, none⟩)] w fun e w' => e = .returned (.tuple #[]) ∧ PenC w' pb p g X ((n + 1) % (X.r * X.c)) k tx ∧ Keep (fun j => j = pb) w w' := by
  have zb := h.st.lt
  have k0 := h.st.cell 0 (v := .pointer (some ⟨p, 0, none⟩)) rfl
  have k1 := h.st.cell 1 (v := .int .i64 n) rfl
  have f1 := h.st.free 1
  have hv := Lib.hid h.ok.valid
  have hm0 := Spc.pos h.ok
  have hb := valid_facts h.ok.valid
  have b0 := h.b0
  have b1 := h.b1
  have H := Lib.hid h
  obtain ⟨m, hm⟩ : ∃ m, (n + 1) % (X.r * X.c) = m := ⟨_, rfl⟩
  have m0 : 0 ≤ m := by rw [← hm]; exact Int.emod_nonneg _ (by omega)
  have m1 : m < X.r * X.c := by rw [← hm]; exact Int.emod_lt_of_pos _ hm0
  have HM := Lib.hid hm
  have HB := Lib.hid (And.intro m0 m1)
  have hn1 : IntKind.i64.wrap (n + 1) = n + 1 := by rw [IntWalk.i64_in _ (by omega)]
  rw [hm]
  clear h hm m0 m1
  go_enter Tryz.func410, Tryz.ntmps410
  refine wp_region_mixT 14 (NS := []) [] rfl (by kernel_rfl) (by kernel_rfl) (by simp) (by simp) ?_
  simp only [List.take_succ_cons, List.take_zero, List.drop_succ_cons, List.drop_zero]
  repeat (first
    | (refine mix_skip rfl rfl ?_; simp only [Act.put, List.setIfInBounds_toArray, List.set_cons_succ, List.set_cons_zero])
    | (refine mix_q rfl rfl rfl (by kernel_rfl) rfl rfl rfl ?_
       apply Exists.intro
       refine ⟨fun Wm => ?_, ?_⟩
       · simp only [fin]
         skip
         intro K hK
         go_wp2_with ((first | (go_at_call 63; (with_reducible refine (ssize_is (H.out.sp.up (up_upOf _ _))).mono ?_); rintro e w' ⟨rfl, hux⟩) | (go_at_call 89; (with_reducible refine (wrap_good _ _ _ _ hv.out).mono ?_); rw [HM.out]; rintro e w' ⟨rfl, hux⟩)))
         refine hK _ _ ?_ ?_ ?_
         · (repeat (first | with_reducible exact Up.refl _ | with_reducible refine Up.alloc ?_ _ | with_reducible refine Up.drew ?_ | with_reducible refine Up.drewN ?_ _ | with_reducible refine Up.setCell ?_ (by (try simp) <;> omega) _ | with_reducible assumption | with_reducible refine Up.trans ?_ (by assumption)))
         · rfl
         · exact tmps_at rfl
       simp only [Act.put, List.setIfInBounds_toArray, List.set_cons_succ, List.set_cons_zero]))
  refine mix_nil ?_
  intro w1 hb_w1
  simp only [fin]
  have hu_w1 : Up w w1 := by (repeat (first | with_reducible exact Up.refl _ | with_reducible refine Up.alloc ?_ _ | with_reducible refine Up.drew ?_ | with_reducible refine Up.drewN ?_ _ | with_reducible refine Up.setCell ?_ (by (try simp) <;> omega) _ | with_reducible assumption | with_reducible refine Up.trans ?_ (by assumption)))
  have hz_w1 := Up.size hb_w1
  try simp at hz_w1
  obtain ⟨bc_w1_0, bf_w1_0⟩ := hu_w1.at_ (pb) (by omega)
  have zb_w1_0 : pb < w1.heap.size := by omega
  go_wp2_with fail
  go_end0
  have hk : Keep (fun j => j = pb) w (w1.setCell ⟨pb, 1, none⟩ (.int .i64 m)) := (Keep.of_up (E := fun j => j = pb) hb_w1).setCell (p := ⟨pb, 1, none⟩) (.inl rfl) _
  exact ⟨rfl, H.out.put hk ((H.out.st.up hb_w1).set 1 (.int .i64 m)) H.out.kw HB.out.1 HB.out.2, hk⟩
set_option maxRecDepth 100000 in
set_option maxHeartbeats 1600000 in
theorem pput_is {w : World} {pb p g : Nat} {X : Spc} {n : Int} {k : Cl} {tx : Bool} (h : PenC w pb p g X n k tx) {c : Int} (hc : isB c) (gr : Bool) :
    Calls Tryz.prog 384 #[.pointer (some ⟨pb, 0, none⟩), .int .u8 c, .bool gr] w fun e w' => e = .returned (.tuple #[]) ∧ PenC w' pb p g (X.set n (penCl k c gr)) ((n + 1) % (X.r * X.c)) k tx ∧ Keep (pen3 pb p g) w w' := by
  have zb := h.st.lt
  have k0 := h.st.cell 0 (v := .pointer (some ⟨p, 0, none⟩)) rfl
  have k1 := h.st.cell 1 (v := .int .i64 n) rfl
  obtain ⟨d, hd⟩ : ∃ d, penCl k c gr = d := ⟨_, rfl⟩
  have hdw : d.Wf := hd ▸ penCl_wf h.kw hc gr
  obtain ⟨Y, hY⟩ : ∃ Y, X.set n d = Y := ⟨_, rfl⟩
  have okY : Y.Ok := hY ▸ h.ok.set n hdw
  have HCE := Lib.hid (fun W (h' : St W 458 pb (penVals p n k tx)) => pcell_is h' c gr hd)
  have HSE := Lib.hid (fun W (h' : SAt W p g X) => sset_op n rfl hdw h' h.ok hY)
  have hr : Y.r * Y.c = X.r * X.c := by rw [← hY]; rfl
  have HNX := Lib.hid (fun W (h' : PenC W pb p g Y n k tx) => pnext_is h')
  rw [hr] at HNX
  have H := Lib.hid h
  have HY := Lib.hid (And.intro okY hr)
  rw [hd, hY]
  clear h hd hdw hY okY hr
  go_enter Tryz.func384, Tryz.ntmps384
  go_wp2_with fail
  refine wp_region_mixT 12 (NS := []) [] rfl (by kernel_rfl) (by kernel_rfl) (by simp) (by simp) ?_
  simp only [List.take_succ_cons, List.take_zero, List.drop_succ_cons, List.drop_zero]
  repeat (first
    | (refine mix_skip rfl rfl ?_; simp only [Act.put, List.setIfInBounds_toArray, List.set_cons_succ, List.set_cons_zero])
    | (refine mix_q rfl rfl rfl (by kernel_rfl) rfl rfl rfl ?_
       apply Exists.intro
       refine ⟨fun Wm => ?_, ?_⟩
       · simp only [fin]
         skip
         intro K hK
         go_wp2_with ((go_at_call 409; (with_reducible refine (HCE.out _ (H.out.st.up (up_upOf _ _))).mono ?_); rintro e w' ⟨rfl, hux⟩))
         refine hK _ _ ?_ ?_ ?_
         · (repeat (first | with_reducible exact Up.refl _ | with_reducible refine Up.alloc ?_ _ | with_reducible refine Up.drew ?_ | with_reducible refine Up.drewN ?_ _ | with_reducible refine Up.setCell ?_ (by (try simp) <;> omega) _ | with_reducible assumption | with_reducible refine Up.trans ?_ (by assumption)))
         · rfl
         · exact tmps_at rfl
       simp only [Act.put, List.setIfInBounds_toArray, List.set_cons_succ, List.set_cons_zero]))
  refine mix_nil ?_
  intro w1 hb_w1
  simp only [fin]
  have hu_w1 : Up w w1 := by (repeat (first | with_reducible exact Up.refl _ | with_reducible refine Up.alloc ?_ _ | with_reducible refine Up.drew ?_ | with_reducible refine Up.drewN ?_ _ | with_reducible refine Up.setCell ?_ (by (try simp) <;> omega) _ | with_reducible assumption | with_reducible refine Up.trans ?_ (by assumption)))
  have hz_w1 := Up.size hb_w1
  try simp at hz_w1
  obtain ⟨bc_w1_0, bf_w1_0⟩ := hu_w1.at_ (pb) (by omega)
  have zb_w1_0 : pb < w1.heap.size := by omega
  go_wp2_with fail
  refine (HSE.out _ (H.out.sp.up hb_w1)).mono ?_
  rintro e w2 ⟨rfl, hs2, hk2⟩
  have H2 := Lib.hid ((H.out.up hb_w1).two hk2 hs2 HY.out.1 HY.out.2)
  have HK2 := Lib.hid ((Keep.of_up (E := two p g) hb_w1).trans hk2)
  clear hs2 hk2
  go_wp2_with fail
  refine (HNX.out _ H2.out).mono ?_
  rintro e w3 ⟨rfl, h3, hk3⟩
  have H3 := Lib.hid h3
  have HK3 := Lib.hid hk3
  clear h3 hk3
  go_wp2_with fail
  go_end0
  exact ⟨rfl, H3.out, (HK2.out.mono (fun j e => e.elim (fun e => .inr (.inl e)) (fun e => .inr (.inr e)))).trans (HK3.out.mono (fun j e => .inl e))⟩
set_option maxRecDepth 100000 in
set_option maxHeartbeats 1600000 in
theorem pto_is {w : World} {pb p g : Nat} {X : Spc} {n m : Int} {k : Cl} {tx : Bool} (h : PenC w pb p g X n k tx) (m0 : 0 ≤ m) (m1 : m < X.r * X.c) :
    Calls Tryz.prog 385 #[.pointer (some ⟨pb, 0, none⟩), .int .i64 m] w fun e w' => e = .returned (.int .i64 0) ∧ PenC w' pb p g X m k tx ∧ Keep (fun j => j = pb) w w' := by
  have zb := h.st.lt
  have k0 := h.st.cell 0 (v := .pointer (some ⟨p, 0, none⟩)) rfl
  have k1 := h.st.cell 1 (v := .int .i64 n) rfl
  have f1 := h.st.free 1
  have hge : ¬ X.r * X.c ≤ m := by omega
  have HSZ := Lib.hid (ssize_is h.sp)
  have hv := Lib.hid h.ok.valid
  have H := Lib.hid h
  have HB := Lib.hid (And.intro m0 m1)
  have HCL := Lib.hid (fun W => cells_good X.r X.c W hv.out)
  obtain ⟨q, hq⟩ : ∃ q, X.r * X.c = q := ⟨_, rfl⟩
  rw [hq] at HCL hge
  clear h m0 m1 hq
  go_enter Tryz.func385, Tryz.ntmps385
  go_wp2_with fail
  refine HSZ.out.mono ?_
  rintro e w1 ⟨rfl, hu1⟩
  have HU1 := Lib.hid hu1
  clear hu1
  go_wp2_with fail
  refine (HCL.out _).mono ?_
  rintro e w2 ⟨rfl, hu2⟩
  have hu : Up w w2 := HU1.out.trans hu2
  have HU := Lib.hid hu
  have s1 := (H.out.st.up hu).cell 1 (v := .int .i64 n) rfl
  have t1 := (H.out.st.up hu).free 1
  have z1 := (H.out.st.up hu).lt
  clear hu2 hu
  go_wp2_with fail
  go_ret
  have hk : Keep (fun j => j = pb) w (w2.setCell ⟨pb, 1, none⟩ (.int .i64 m)) := (Keep.of_up (E := fun j => j = pb) HU.out).setCell (p := ⟨pb, 1, none⟩) (.inl rfl) _
  exact ⟨rfl, H.out.put hk ((H.out.st.up HU.out).set 1 (.int .i64 m)) H.out.kw HB.out.1 HB.out.2, hk⟩
end Go.Proofs.YtamfjgioajmnpaaGreatDoor
namespace Go.Proofs.YtamfjgioajmnpaaGreatDoor
open Go.RowKit
set_option linter.unusedVariables false
set_option linter.unusedSimpArgs false

theorem Sl.past {E : Nat → Prop} {B : Nat} {w w' : World} {A : Option Addr} {n c : Nat} {l : List Int} (h : Sl B w A n c l) (hk : Keep E w w') (hE : ∀ p, A = some p → ¬ E p.block) : Sl B w' A n c l :=
  ⟨h.rd.kept hk hE, h.cap, h.mx, h.at_, h.small, h.bytes, fun p hp => by rw [hk.block _ (h.lt hp) (hE p hp)]; exact h.tag p hp⟩
theorem Sl.front {B : Nat} {w : World} {A : Option Addr} {n c : Nat} {l : List Int} (h : Sl B w A n c l) {k : Nat} (hk : k ≤ n) : Sl B w A k k (l.take k) := by
  have h1 := h.take hk
  exact ⟨h1.rd, Nat.le_refl _, by have := h.cap; have := h.mx; omega, h1.at_, h1.small, h1.bytes, h1.tag⟩
/-- where the bytes lie -/
class QP where
  Q : Nat → Prop
/-- a scanner in a block: what is left, and its error -/
structure Sc [QP] (W : World) (b : Nat) (A : Option Addr) (n c : Nat) (l : List Int) (e : Int) : Prop where
  sl : Sl 0 W A n c l
  lo : ∀ p, A = some p → p.block < b ∧ QP.Q p.block
  c0 : W.cell? ⟨b, 0, none⟩ = some (.slice A n c)
  c1 : W.cell? ⟨b, 1, none⟩ = some (.int .i64 e)
  f0 : W.frozen? ⟨b, 0, none⟩ = false
  f1 : W.frozen? ⟨b, 1, none⟩ = false
section
variable {W W' : World} {b : Nat} {A : Option Addr} {n c : Nat} {l : List Int} {e : Int}
theorem Sc.ne [QP] (h : Sc W b A n c l e) : ∀ p, A = some p → p.block ≠ b := fun p hp => Nat.ne_of_lt (h.lo p hp).1
theorem Sc.lt [QP] (h : Sc W b A n c l e) : b < W.heap.size := cell_lt h.c0
theorem Sc.up [QP] (h : Sc W b A n c l e) (hu : Up W W') : Sc W' b A n c l e := by
  have hb := hu.at_ b h.lt
  exact ⟨h.sl.up hu, h.lo, (hb.1 0).trans h.c0, (hb.1 1).trans h.c1, (hb.2 0).trans h.f0, (hb.2 1).trans h.f1⟩
theorem Sc.far [QP] {E : Nat → Prop} (h : Sc W b A n c l e) (hk : Keep E W W') (hE : ∀ k, E k → b < k) : Sc W' b A n c l e := by
  have hb := hk.at_ b h.lt (fun e => by have := hE _ e; omega)
  exact ⟨h.sl.past hk (fun p hp e => by have := hE _ e; have := (h.lo p hp).1; omega), h.lo, (hb.1 0).trans h.c0, (hb.1 1).trans h.c1, (hb.2 0).trans h.f0, (hb.2 1).trans h.f1⟩
theorem Sc.setE [QP] (h : Sc W b A n c l e) (x : Int) : Sc (W.setCell ⟨b, 1, none⟩ (.int .i64 x)) b A n c l x := by
  have hk : Keep (fun k => k = b) W (W.setCell ⟨b, 1, none⟩ (.int .i64 x)) := (Keep.refl (fun k => k = b) W).setCell (p := ⟨b, 1, none⟩) (.inl rfl) _
  exact ⟨h.sl.past hk h.ne, h.lo, (World.cell?_setCell_other _ _ _ _ (by simp)).trans h.c0, World.cell?_setCell_same (h := h.c1) .., by simpa [go_sem] using h.f0, by simpa [go_sem] using h.f1⟩
theorem Sc.setP [QP] (h : Sc W b A n c l e) {A' : Option Addr} {n' c' : Nat} {l' : List Int} (hs : Sl 0 W A' n' c' l') (hne : ∀ p, A' = some p → p.block < b ∧ QP.Q p.block) : Sc (W.setCell ⟨b, 0, none⟩ (.slice A' n' c')) b A' n' c' l' e := by
  have hk : Keep (fun k => k = b) W (W.setCell ⟨b, 0, none⟩ (.slice A' n' c')) := (Keep.refl (fun k => k = b) W).setCell (p := ⟨b, 0, none⟩) (.inl rfl) _
  exact ⟨hs.past hk (fun p hp => Nat.ne_of_lt (hne p hp).1), hne, World.cell?_setCell_same (h := h.c0) .., (World.cell?_setCell_other _ _ _ _ (by simp)).trans h.c1, by simpa [go_sem] using h.f0, by simpa [go_sem] using h.f1⟩
theorem Sc.cutNe [QP] (h : Sc W b A n c l e) (k : Nat) : ∀ p, (if c = k then A else A.map (·.add k)) = some p → p.block < b ∧ QP.Q p.block := by
  intro p hp
  split at hp
  · exact h.lo p hp
  · cases A with
    | none => cases hp
    | some a =>
      simp only [Option.map_some, Option.some.injEq] at hp
      subst hp
      rw [block_of_add]
      exact h.lo a rfl
end
def errs (e x : Int) : Int := if e = 0 then x else e
theorem sfail_is [QP] {w : World} {b : Nat} {A : Option Addr} {n c : Nat} {l : List Int} {e0 : Int} (x : Int) (h : Sc w b A n c l e0) :
    Calls Tryz.prog 421 #[.pointer (some ⟨b, 0, none⟩), .int .i64 x] w fun e w' => e = .returned (.tuple #[]) ∧ Sc w' b A n c l (errs e0 x) ∧ Near b w w' := by
  have HS := Lib.hid h
  obtain ⟨_, _, _, c1, _, f1⟩ := h
  by_cases h0 : e0 = 0
  · subst h0
    go_enter Tryz.func421, Tryz.ntmps421
    go_wp2
    go_end0
    exact ⟨rfl, HS.out.setE x, (Keep.refl (fun k => k = b) w).setCell (p := ⟨b, 1, none⟩) (.inl rfl) _⟩
  · have h1 : (e0 == 0) = false := by simpa using h0
    have he : errs e0 x = e0 := by unfold errs; rw [if_neg h0]
    rw [he]
    clear h0 he
    go_enter Tryz.func421, Tryz.ntmps421
    go_wp2
    go_end0
    exact ⟨rfl, HS.out, Keep.refl _ w⟩
theorem near_set (w : World) (b o : Nat) (v : Value) : Near b w (w.setCell ⟨b, o, none⟩ v) := (Keep.refl (fun k => k = b) w).setCell (p := ⟨b, o, none⟩) (.inl rfl) v
set_option maxHeartbeats 800000 in
theorem take_ok [QP] {w : World} {b : Nat} {A : Option Addr} {n c : Nat} {l : List Int} {e0 : Int} {k : Nat} (h : Sc w b A n c l e0) (h0 : 0 < k) (hk : k ≤ n) :
    Calls Tryz.prog 404 #[.pointer (some ⟨b, 0, none⟩), .int .i64 (k : Int)] w fun e w' => e = .returned (.slice A k k) ∧ (∃ A', Sc w' b A' (n - k) (c - k) (l.drop k) e0) ∧ Near b w w' := by
  have HS := Lib.hid h
  have HC := Lib.hid (h.setP (h.sl.cut hk) (h.cutNe k))
  obtain ⟨g, off, rfl, zg⟩ := h.sl.form (by omega)
  have hcap := h.sl.cap
  have hsm := h.sl.small
  have hmx := h.sl.mx
  obtain ⟨_, _, c0, _, f0, _⟩ := h
  have zb := cell_lt c0
  simp only at zb
  go_enter Tryz.func404, Tryz.ntmps404
  by_cases hck : c = k
  · subst hck
    obtain rfl : n = c := by omega
    rw [if_pos rfl, Nat.sub_self] at HC
    rw [Nat.sub_self]
    go_wp2
    go_ret
    exact ⟨rfl, ⟨_, HC.out⟩, near_set _ _ _ _⟩
  · have hlt : k < c := by omega
    rw [if_neg hck, show Option.map (fun x : Addr => x.add k) (some ⟨g, off, none⟩) = some ⟨g, off + k, none⟩ by simp [Addr.add]; omega] at HC
    go_wp2
    all_goals go_ret
    all_goals exact ⟨rfl, ⟨_, HC.out⟩, near_set _ _ _ _⟩
end Go.Proofs.YtamfjgioajmnpaaGreatDoor
namespace Go.Proofs.YtamfjgioajmnpaaGreatDoor
open Go.RowKit
set_option linter.unusedVariables false
set_option linter.unusedSimpArgs false

def nm16 (k : Int) : ByteArray := if k = 0 then ⟨#[84, 101, 120, 116]⟩ else if k = 5 then ⟨#[80, 84]⟩ else if k = 8 then ⟨#[71, 69]⟩ else if k = 17 then ⟨#[83, 66, 65]⟩ else if k = 18 then ⟨#[69, 85, 65]⟩ else if k = 19 then ⟨#[73, 67]⟩ else if k = 29 then ⟨#[83, 70]⟩ else if k = 40 then ⟨#[83, 65]⟩ else if k = 41 then ⟨#[83, 70, 69]⟩ else if k = 44 then ⟨#[77, 70]⟩ else if k = 60 then ⟨#[82, 65]⟩ else ⟨#[]⟩
def isOrd (x : Int) : Bool := x == 5 || x == 8 || x == 17 || x == 18 || x == 19 || x == 29 || x == 40 || x == 41 || x == 44 || x == 60
theorem kinds_or (k : Int) : k = 0 ∨ k = 5 ∨ k = 8 ∨ k = 17 ∨ k = 18 ∨ k = 19 ∨ k = 29 ∨ k = 40 ∨ k = 41 ∨ k = 44 ∨ k = 60 ∨ ((k == 0) = false ∧ (k == 5) = false ∧ (k == 8) = false ∧ (k == 17) = false ∧ (k == 18) = false ∧ (k == 19) = false ∧ (k == 29) = false ∧ (k == 40) = false ∧ (k == 41) = false ∧ (k == 44) = false ∧ (k == 60) = false) := by
  by_cases h : k = 0 ∨ k = 5 ∨ k = 8 ∨ k = 17 ∨ k = 18 ∨ k = 19 ∨ k = 29 ∨ k = 40 ∨ k = 41 ∨ k = 44 ∨ k = 60
  · rcases h with h | h | h | h | h | h | h | h | h | h | h <;> simp [h]
  · simp only [not_or] at h
    refine .inr (.inr (.inr (.inr (.inr (.inr (.inr (.inr (.inr (.inr (.inr (⟨by simp [h], by simp [h], by simp [h], by simp [h], by simp [h], by simp [h], by simp [h], by simp [h], by simp [h], by simp [h], by simp [h]⟩)))))))))))
theorem nm16_no {k : Int} (h : (k == 0) = false ∧ (k == 5) = false ∧ (k == 8) = false ∧ (k == 17) = false ∧ (k == 18) = false ∧ (k == 19) = false ∧ (k == 29) = false ∧ (k == 40) = false ∧ (k == 41) = false ∧ (k == 44) = false ∧ (k == 60) = false) : nm16 k = ⟨#[]⟩ := by
  obtain ⟨h0, h1, h2, h3, h4, h5, h6, h7, h8, h9, h10⟩ := h
  simp only [beq_eq_false_iff_ne, ne_eq] at h0 h1 h2 h3 h4 h5 h6 h7 h8 h9 h10
  unfold nm16
  simp only [if_neg, h0, h1, h2, h3, h4, h5, h6, h7, h8, h9, h10, not_false_eq_true, if_false]
set_option maxHeartbeats 800000 in
theorem oname_is (k : Int) (w : World) : Calls Tryz.prog 353 #[.int .i64 k] w fun e w' => e = .returned (.string (nm16 k)) ∧ w = w' := by
  rcases kinds_or k with rfl | rfl | rfl | rfl | rfl | rfl | rfl | rfl | rfl | rfl | rfl | h
  case inr.inr.inr.inr.inr.inr.inr.inr.inr.inr.inr =>
    rw [nm16_no h]
    obtain ⟨h0, h1, h2, h3, h4, h5, h6, h7, h8, h9, h10⟩ := h
    go_enter Tryz.func353, Tryz.ntmps353
    go_wp2
    go_ret
    exact ⟨rfl, rfl⟩
  all_goals
    go_enter Tryz.func353, Tryz.ntmps353
    go_wp2
    go_ret
    exact ⟨rfl, rfl⟩
end Go.Proofs.YtamfjgioajmnpaaGreatDoor
namespace Go.Proofs.YtamfjgioajmnpaaGreatDoor
open Go.RowKit
set_option linter.unusedVariables false
set_option linter.unusedSimpArgs false

theorem errs_ne {e x : Int} (h : e ≠ 0 ∨ x ≠ 0) : errs e x ≠ 0 := by unfold errs; split <;> omega
theorem run_bytes (m : Nat) (hm : m ≤ 65536) : ∃ O : Obj, (∀ w : World, (Instr.makeSlice 30 (.int .i64 (m : Int)) (.int .i64 (m : Int))).run Tryz.prog w = .ok (.slice (some ⟨w.heap.size, 0, none⟩) m m) (w.alloc O)) ∧ ∀ w : World, ∀ i, i < m → (w.alloc O).cell? ⟨w.heap.size, i, none⟩ = some (.int .u8 0) := by
  obtain ⟨i0, hi, hz0, hz1, hz2⟩ := info_parts info_u8
  refine ⟨.cells (madeCells (Value.int .u8 0).cells (m * i0.size)) 5, fun w => ?_, fun w i hlt => ?_⟩
  · have := run_make (P := Tryz.prog) w 30 5 i0 _ Tryz.underlying30 hi hz0 .i64 .i64 (m : Int) (m : Int) (by omega) (by omega) (by rw [hz2]; omega) (by omega)
    simpa using this
  · rw [hz1]
    rw [World.cell?_alloc_new]
    have hb : i < m * 1 := by omega
    show (madeCells #[.int .u8 0] (m * 1))[i]? = _
    simp only [madeCells, Array.getElem?_map]
    rw [show (Array.range (m * 1))[i]? = some i from by rw [Array.getElem?_range, if_pos hb]]
    simp [Nat.mod_one]
set_option maxHeartbeats 800000 in
theorem take_no [QP] {w : World} {b : Nat} {A : Option Addr} {n c : Nat} {l : List Int} {e0 : Int} {k : Nat} (h : Sc w b A n c l e0) (hk : n < k) (hs : k ≤ 255) :
    Calls Tryz.prog 404 #[.pointer (some ⟨b, 0, none⟩), .int .i64 (k : Int)] w fun e w' => ∃ g, e = .returned (.slice (some ⟨g, 0, none⟩) k k) ∧ g < w'.heap.size ∧ g ≠ b ∧ (∀ i, i < k → w'.cell? ⟨g, i, none⟩ = some (.int .u8 0)) ∧ Sc w' b none 0 0 [] (errs e0 2) ∧ Near b w w' := by
  have HS := Lib.hid h
  have HF := Lib.hid (sfail_is 2 h)
  obtain ⟨O, HO1, HO2⟩ := run_bytes k (by omega)
  have HOC := Lib.hid HO2
  have hcap := h.sl.cap
  have hmx := h.sl.mx
  obtain ⟨_, _, c0, _, f0, _⟩ := h
  have zb := cell_lt c0
  simp only at zb
  clear HO2
  go_enter Tryz.func404, Tryz.ntmps404
  go_wp2_with fail
  refine HF.out.mono ?_
  rintro e w1 ⟨rfl, hs1, hk1⟩
  have HN := Lib.hid (hs1.setP Sl.none_ (fun p hp => by cases hp))
  have HK := Lib.hid hk1
  obtain ⟨_, _, d0, _, g0, _⟩ := hs1
  have zb1 := cell_lt d0
  simp only at zb1
  clear hk1 c0 f0
  go_wp2_with fail
  go_ret
  exact ⟨_, rfl, by simp, by simp; omega, by simpa using HOC.out (w1.setCell ⟨b, 0, none⟩ (.slice none 0 0)), HN.out.up ((Up.refl _).alloc _), (HK.out.trans (near_set _ _ _ _)).up ((Up.refl _).alloc _)⟩
end Go.Proofs.YtamfjgioajmnpaaGreatDoor
