/-
  Small parts of query: a number in two bytes, a size's places, a page's number, the seven codes, the colours. Conditions: bounds of the numbers.
-/
import Derived.Test.YtfknakcjhlonoaaQCat
import Derived.Test.YtfknakcjhlonoaaQName
namespace Go.Proofs.Ytfknakcjhlonoaa
open Go.RowKit
set_option linter.unusedVariables false
set_option linter.unusedSimpArgs false

theorem sl_lit (W : World) (l : List Int) (h : BL l) (hn : l.length ≤ 65536) (n g : Nat) (hg : g = W.heap.size) (cs : Array Value) (hc : cs = (bs l).toArray) (hl : l.length = n) : Sl W.heap.size (W.alloc (.cells cs 5)) (some ⟨g, 0, none⟩) n n l := by
  subst hg; subst hc; subst hl
  have := World.ownsRow_lit (base := W.heap.size) (size := 1) (e := 5) W (bs l).toArray l.length (Nat.le_refl _) (by simp [maxLen]; omega) (by simp [bs])
  exact Sl.of_own (by simpa using this) (Nat.le_refl _) (by simp [maxLen]; omega) hn h
/-- a list of slices that is written out -/
theorem fl_lit (W : World) (xs : List Inn) (h : ∀ x ∈ xs, Sl 0 W x.1 x.2.2.length x.2.1 x.2.2) (hn : xs.length ≤ 65536) (n g : Nat) (hg : g = W.heap.size) (cs : Array Value) (hc : cs = (xs.flatMap BS.cells).toArray) (hl : xs.length = n) :
    FL 22 1 BS.cells BS.inn 0 (W.alloc (.cells cs 22)) (some ⟨g, 0, none⟩) n xs := by
  subst hg; subst hc; subst hl
  have hsz : (xs.flatMap BS.cells).length = xs.length := by
    clear h hn
    induction xs with
    | nil => rfl
    | cons y ys ih => rw [List.flatMap_cons, List.length_append, ih]; simp [BS.cells]; omega
  have := World.ownsRow_lit (base := 0) (size := 1) (e := 22) W (xs.flatMap BS.cells).toArray xs.length (Nat.zero_le _) (by simp [maxLen]; omega) (by simp [hsz])
  refine ⟨by simpa using this, Nat.le_refl _, by simp [maxLen]; omega, fun x hx s hs => ?_⟩
  rw [List.mem_singleton.1 hs]
  exact (h x hx).up ((Up.refl W).alloc _)
def SPost (w : World) (L : List Int) (e : Ending) (w' : World) : Prop := ∃ A c, e = .returned (.slice A L.length c) ∧ Sl w.heap.size w' A L.length c L ∧ Up w w'
def twoL (n : Int) : List Int := [n / 256, n % 256]
theorem twoL_bl {n : Int} (h : 0 ≤ n) (h2 : n ≤ 65535) : BL (twoL n) := BL.cons (by omega) (BL.cons (by omega) BL.nil)
set_option maxRecDepth 100000 in
theorem two_is (n : Int) (w : World) (h : 0 ≤ n ∧ n ≤ 65535) : Calls Try.prog 42 #[.int .i64 n] w (SPost w (twoL n)) := by
  have hbl := Lib.hid (twoL_bl h.1 h.2)
  obtain ⟨h0, h1⟩ := h
  go_enter Try.func42, Try.ntmps42
  go_wp2
  go_ret
  exact ⟨_, _, rfl, sl_lit w (twoL n) hbl.out (by simp [twoL]) _ _ rfl _ rfl rfl, by (repeat (first | with_reducible exact Up.refl _ | with_reducible refine Up.alloc ?_ _ | with_reducible refine Up.drew ?_ | with_reducible refine Up.drewN ?_ _ | with_reducible refine Up.setCell ?_ (by (try simp) <;> omega) _ | with_reducible assumption | with_reducible refine Up.trans ?_ (by assumption)))⟩
theorem qcodes_is (w : World) : Calls Try.prog 23 #[] w (SPost w codesL) := by
  go_enter Try.func23, Try.ntmps23
  go_wp2
  go_ret
  exact ⟨_, _, rfl, sl_lit w codesL codes_bd (by decide) _ _ rfl _ rfl rfl, by (repeat (first | with_reducible exact Up.refl _ | with_reducible refine Up.alloc ?_ _ | with_reducible refine Up.drew ?_ | with_reducible refine Up.drewN ?_ _ | with_reducible refine Up.setCell ?_ (by (try simp) <;> omega) _ | with_reducible assumption | with_reducible refine Up.trans ?_ (by assumption)))⟩
/-- rows and columns of the models -/
def isDim (rows cols : Int) : Prop := (rows = 24 ∧ cols = 80) ∨ (rows = 32 ∧ cols = 80) ∨ (rows = 43 ∧ cols = 80) ∨ (rows = 27 ∧ cols = 132)
theorem isDim.bd {rows cols : Int} (h : isDim rows cols) : (0 ≤ rows ∧ rows ≤ 65535) ∧ (0 ≤ cols ∧ cols ≤ 65535) ∧ 0 ≤ rows * cols ∧ rows * cols ≤ 65535 := by
  rcases h with ⟨rfl, rfl⟩ | ⟨rfl, rfl⟩ | ⟨rfl, rfl⟩ | ⟨rfl, rfl⟩ <;> decide
set_option maxRecDepth 100000 in
theorem cells_is (rows cols : Int) (w : World) (h : isDim rows cols) : Calls Try.prog 44 #[.agg #[.int .i64 rows, .int .i64 cols]] w fun e w' => e = .returned (.int .i64 (rows * cols)) ∧ Up w w' := by
  rcases h with ⟨rfl, rfl⟩ | ⟨rfl, rfl⟩ | ⟨rfl, rfl⟩ | ⟨rfl, rfl⟩
  all_goals
    go_enter Try.func44, Try.ntmps44
    go_wp2
    go_ret
    exact ⟨rfl, by (repeat (first | with_reducible exact Up.refl _ | with_reducible refine Up.alloc ?_ _ | with_reducible refine Up.drew ?_ | with_reducible refine Up.drewN ?_ _ | with_reducible refine Up.setCell ?_ (by (try simp) <;> omega) _ | with_reducible assumption | with_reducible refine Up.trans ?_ (by assumption)))⟩
/-- a page, or none, and its number -/
def PgV (w : World) (pv : Value) (k : Int) : Prop := (pv = .pointer none ∧ k = 37) ∨ ∃ b, pv = .pointer (some ⟨b, 0, none⟩) ∧ b < w.heap.size ∧ w.cell? ⟨b, 0, none⟩ = some (.int .i64 k)
theorem PgV.up {w w' : World} {pv : Value} {k : Int} (h : PgV w pv k) (hu : Up w w') : PgV w' pv k := by
  rcases h with h | ⟨b, h1, h2, h3⟩
  · exact .inl h
  · exact .inr ⟨b, h1, by have := hu.size; omega, ((hu.at_ b h2).1 0).trans h3⟩
theorem pgnum_is (pv : Value) (k : Int) (w : World) (h : PgV w pv k) : Calls Try.prog 45 #[pv] w fun e w' => e = .returned (.int .i64 k) ∧ Up w w' := by
  rcases h with ⟨rfl, rfl⟩ | ⟨b, rfl, h2, h3⟩
  · go_enter Try.func45, Try.ntmps45
    go_wp2
    go_ret
    exact ⟨rfl, by (repeat (first | with_reducible exact Up.refl _ | with_reducible refine Up.alloc ?_ _ | with_reducible refine Up.drew ?_ | with_reducible refine Up.drewN ?_ _ | with_reducible refine Up.setCell ?_ (by (try simp) <;> omega) _ | with_reducible assumption | with_reducible refine Up.trans ?_ (by assumption)))⟩
  · go_enter Try.func45, Try.ntmps45
    go_wp2
    go_ret
    exact ⟨rfl, by (repeat (first | with_reducible exact Up.refl _ | with_reducible refine Up.alloc ?_ _ | with_reducible refine Up.drew ?_ | with_reducible refine Up.drewN ?_ _ | with_reducible refine Up.setCell ?_ (by (try simp) <;> omega) _ | with_reducible assumption | with_reducible refine Up.trans ?_ (by assumption)))⟩
def colL : List Int := [241, 241, 242, 242, 243, 243, 244, 244, 245, 245, 246, 246, 247, 247]
theorem col_at : ∀ k : Fin 7, colL.take (2 * (k.val + 1)) = colL.take (2 * k.val) ++ [241 + (k.val : Int), 241 + (k.val : Int)] := by decide
set_option maxRecDepth 100000 in
set_option maxHeartbeats 1600000 in
theorem colors_is (w : World) : Calls Try.prog 46 #[] w (SPost w colL) := by
  obtain ⟨i0, hi, hz0, hz1, hz2⟩ := info_parts info_u8
  go_enter Try.func46, Try.ntmps46
  go_wp2_with fail
  go_loopw [1, 2] (fun v i wr => ∃ (j : Nat) (A1 : Option Addr) (c1 m1 : Nat), i = .int .u8 (241 + (j : Int)) ∧ v = .slice A1 m1 c1 ∧ j ≤ 7 ∧ m1 = 2 * j ∧ wr.ownsRow w.heap.size 5 1 (.slice A1 m1 c1) m1 (bs (colL.take (2 * j))) ∧ m1 ≤ c1 ∧ c1 ≤ maxLen ∧ Up w wr) (fun _ i _ => 248 - (intOf i).toNat)
  case atStart => exact ⟨0, none, 0, 0, rfl, rfl, by omega, rfl, World.ownsRow_nil _ _ _ _, Nat.le_refl _, by simp [maxLen], Up.refl _⟩
  case round =>
    obtain ⟨j, A1, c1, m1, rfl, rfl, hj, hm1, hown, hle, hmx, hup⟩ := hrel
    have HOW := Lib.hid hown
    have HUP := Lib.hid hup
    have HM1 := Lib.hid hm1
    have hm14 : m1 ≤ 14 := by omega
    have hq1 : m1 + 2 ≤ maxLen := by simp [maxLen]; omega
    have hq2 : (m1 + 2) * 1 ≤ 140737488355328 := by omega
    have hwr : w.heap.size ≤ wr.heap.size := hup.size
    clear hown hup hm1
    by_cases hlt : j < 7
    · have hv := Lib.hid (col_at ⟨j, hlt⟩)
      have hj8 : (241 : Int) + (j : Int) ≤ 247 := by omega
      go_wp2_with (at_builtin; refine wpList_app _ rfl (.tmp 7) (.tmp 10) 22 rfl w.heap.size 5 i0 _ 1 1 Try.underlying22 hi hz0 hz1 hz2 rfl (by decide) A1 m1 c1 (bs (colL.take (2 * j))) rfl (own_up HOW.out ((Up.refl wr).alloc _)) (wr.heap.size + 1) (some ⟨wr.heap.size, 0, none⟩) 2 2 [.int .u8 (241 + (j : Int)), .int .u8 (241 + (j : Int))] rfl (reads_at wr wr.heap.size 1 2 _ _ rfl rfl) (by simp [Value.oneCell']) hq1 hq2 (by simp; omega) ?_; intro A3 c3 w5 hown5 hg5 hle5 hmx5 hbl5; have HO5 := Lib.hid hown5; have HB5 := Lib.hid hbl5; clear hown5 hg5 hbl5)
      go_roundw
      case rel =>
        have hup5 : Up wr (wr.alloc (.cells #[.int .u8 (241 + (j : Int)), .int .u8 (241 + (j : Int))] 5)) := (Up.refl wr).alloc _
        refine ⟨j + 1, A3, c3, m1 + 2, by first | go_num | (congr 1; omega), rfl, by omega, by have := HM1.out; omega, ?_, hle5, hmx5, (HUP.out.trans hup5).past HB5.out⟩
        rw [hv.out]
        have e9 : bs (colL.take (2 * j) ++ [241 + (j : Int), 241 + (j : Int)]) = bs (colL.take (2 * j)) ++ [.int .u8 (241 + (j : Int)), .int .u8 (241 + (j : Int))] := by simp [bs]
        rw [e9]
        exact HO5.out
      case measure => simp [intOf]; omega
    · obtain rfl : j = 7 := by omega
      have hm := HM1.out
      subst hm
      have hoo := Lib.hid (show wr.ownsRow w.heap.size 5 1 (.slice A1 14 c1) 14 (bs colL) from HOW.out)
      go_wp2_with fail
      go_ret
      exact ⟨A1, c1, rfl, Sl.of_own hoo.out hle hmx (show 14 ≤ 65536 by omega) (by unfold BL; decide), HUP.out⟩
end Go.Proofs.Ytfknakcjhlonoaa
