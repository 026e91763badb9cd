/-
  Law 22 is awake: a page is made, all is said of it, the first twelve bytes are the document's. No condition.
-/
import Derived.Test.YtfknakcjhlonoaaQAll
namespace Go.Proofs.Ytfknakcjhlonoaa
open Go.RowKit
set_option linter.unusedVariables false
set_option linter.unusedSimpArgs false

theorem cut_sl {A : Option Addr} {n c : Nat} {l : List Int} {w : World} (hr : Reads w w.heap.size 1 A n (bs l)) (hb : BL l) (hn : n ≤ c) (hc : c ≤ maxLen) (m : Nat) (hm : m ≤ 65536) :
    Calls Try.prog 15 #[.slice A n c, .int .i64 (m : Int)] w fun e w' => ∃ A' c', e = .returned (.slice A' (l.take m).length c') ∧ Sl w.heap.size w' A' (l.take m).length c' (l.take m) ∧ Up w w' := by
  refine (cut_any A n c l (m : Int) w hr hn hc (by omega) (by omega)).mono ?_
  rintro e w' ⟨A', n', c', rfl, h1, h2, h3, h4, h5⟩
  rw [Int.toNat_natCast] at h2
  have hl : (l.take m).length = n' := by simpa [bs] using h2.1
  rw [hl]
  refine ⟨A', c', rfl, Sl.of_own h2 h3 h4 ?_ (hb.take m), h5⟩
  rw [← hl, List.length_take]
  omega
def isPg (k : Int) : Prop := k = 37 ∨ k = 273 ∨ k = 297 ∨ k = 500 ∨ k = 1047 ∨ k = 1140
def page0 (k : Int) : List Value := .int .i64 k :: .int .u32 0 :: .int .i32 0 :: .int .u32 0 :: (List.replicate 256 (.int .i32 0) ++ [.map none])
theorem zero_pgv (w : World) : (zeroValue 83).run Try.prog w = .ok (.agg (page0 0).toArray) w := by
  obtain ⟨i, hi, hz⟩ : ∃ i, Try.prog.info? 83 = some i ∧ i.zero = some (.agg (page0 0).toArray) := by
    have h : (Try.prog.info? 83).bind (·.zero) = some (.agg (page0 0).toArray) := by kernel_rfl
    cases hi : Try.prog.info? 83 with
    | none => rw [hi] at h; cases h
    | some i => exact ⟨i, rfl, by rw [hi] at h; exact h⟩
  simp [zeroValue, typeInfo, hi, hz]
theorem page0_ne : ((page0 0).toArray = #[]) = False := eq_false (fun h => by
  have h2 : page0 0 = [] := congrArg Array.toList h
  exact List.cons_ne_nil _ _ h2)
theorem page0_set (k : Int) : (page0 0).toArray.setIfInBounds 0 (.int .i64 k) = (page0 k).toArray := by
  rw [List.setIfInBounds_toArray]; rfl
theorem page_box (k : Int) (w : World) (t : TypeId) : PgV (w.alloc (.cells (page0 k).toArray t)) (.pointer (some ⟨w.heap.size, 0, none⟩)) k :=
  .inr ⟨w.heap.size, rfl, by simp, by rw [World.cell?_alloc_new]; exact (List.getElem?_toArray ..).trans rfl⟩
set_option maxRecDepth 100000 in
set_option maxHeartbeats 3200000 in
theorem others_yes (k : Int) (h : isPg k) (w : World) : Calls Try.prog 30 #[.int .i64 k] w fun e w' => ∃ v, e = .returned (.tuple #[v, .bool true]) ∧ Up w w' := by
  rcases h with rfl | rfl | rfl | rfl | rfl | rfl
  all_goals
    go_enter Try.func30, Try.ntmps30
    go_wp2
    go_ret2
    exact ⟨_, rfl, by (repeat (first | with_reducible exact Up.refl _ | with_reducible refine Up.alloc ?_ _ | with_reducible refine Up.drew ?_ | with_reducible refine Up.drewN ?_ _ | with_reducible refine Up.setCell ?_ (by (try simp) <;> omega) _ | with_reducible assumption | with_reducible refine Up.trans ?_ (by assumption)))⟩
set_option maxRecDepth 100000 in
theorem qnew_is (k : Int) (hk : isPg k) (w : World) :
    Calls Try.prog 21 #[.int .i64 k] w fun e w' => ∃ b, e = .returned (.tuple #[.pointer (some ⟨b, 0, none⟩), .int .i64 0]) ∧ PgV w' (.pointer (some ⟨b, 0, none⟩)) k ∧ Up w w' := by
  have hnot : ∀ (x : Bool) (w : World), (Op.unary .not (.bool x)).run Try.prog w = .ok (.bool (!x)) w := fun _ _ => rfl
  go_enter Try.func21, Try.ntmps21
  go_wp2_with (go_at_call 30; refine (others_yes k hk _).mono ?_; rintro e w1 ⟨v, rfl, hu1⟩)
  rw [zero_pgv]
  simp only [Result.andThen_ok, page0_ne, if_false, page0_set, Sem.run_pure]
  obtain ⟨P, hP⟩ : ∃ P, (page0 k).toArray = P := ⟨_, rfl⟩
  have HB := Lib.hid (page_box k w1 83)
  rw [hP] at HB ⊢
  clear hP
  go_wp2

  go_ret2
  exact ⟨_, rfl, HB.out, hu1.alloc _⟩
def head12 : List Int := [136, 0, 11, 129, 128, 128, 129, 133, 134, 135, 136, 166]
theorem awake_all : (bodyL 27 132 37 codesL).take 12 = head12 ∧ 12 < (bodyL 27 132 37 codesL).length := by decide +kernel
set_option maxRecDepth 100000 in
set_option maxHeartbeats 3200000 in
theorem awake22 (w : World) : Calls Try.prog 5 #[] w fun e w' => e = .returned (.bool true) ∧ Up w w' := by
  go_enter Try.func5, Try.ntmps5
  go_wp2_with fail
  refine (qnew_is 37 (.inl rfl) _).mono ?_
  rintro e w1 ⟨b, rfl, hp, hu1⟩
  have HP := Lib.hid hp
  have HU1 := Lib.hid hu1
  clear hp hu1
  go_wp2_with fail
  refine (all_is 5 27 132 37 _ _ (.inr (.inr (.inr ⟨rfl, rfl, rfl⟩))) HP.out (by omega)).mono ?_
  rintro e w2 ⟨A2, c2, rfl, hs2, hu2⟩
  obtain ⟨hh, hlt⟩ := awake_all
  obtain ⟨L, hL⟩ : ∃ L, bodyL 27 132 37 codesL = L := ⟨_, rfl⟩
  rw [hL] at hs2 hh hlt
  rw [hL]
  obtain ⟨n, hn⟩ : ∃ n, L.length = n := ⟨_, rfl⟩
  rw [hn] at hs2 hlt
  rw [hn]
  have hst := hs2.take (k := 12) (by omega)
  rw [hh] at hst
  obtain ⟨g, off, rfl, hg⟩ := hs2.form (by omega)
  have hcap := hs2.cap
  have hmx := hs2.mx
  have hc9 : (c2 : Int) ≤ 9223372036854775807 := by simp [maxLen] at hmx; omega
  have hlt' : (12 : Int) < (n : Int) := by omega
  have hlc : (12 : Int) ≤ (c2 : Int) := by omega
  have HST := Lib.hid hst
  have HU2 := Lib.hid (HU1.out.trans hu2)
  clear hs2 hu2 hst hh hL hn hmx
  go_wp2_with (go_at_call 12; refine (same_sl (HST.out.up ((Up.refl w2).alloc _)) (sl_lit w2 head12 (by unfold BL head12; decide) (by decide) 12 _ rfl #[.int .u8 136, .int .u8 0, .int .u8 11, .int .u8 129, .int .u8 128, .int .u8 128, .int .u8 129, .int .u8 133, .int .u8 134, .int .u8 135, .int .u8 136, .int .u8 166] rfl rfl)).mono ?_; rintro e w3 ⟨rfl, rfl⟩)
  go_ret
  exact ⟨by simp, HU2.out.alloc _⟩
end Go.Proofs.Ytfknakcjhlonoaa
