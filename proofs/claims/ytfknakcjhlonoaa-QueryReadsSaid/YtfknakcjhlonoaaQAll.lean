/-
  query's replies as they are made: field, addr.Model, Reply, some, All. Conditions: a model, a page or none, codes among the seven.
-/
import Derived.Test.YtfknakcjhlonoaaQSays
import Derived.Test.YtfknakcjhlonoaaFBytes
namespace Go.Proofs.Ytfknakcjhlonoaa
open Go.RowKit
set_option linter.unusedVariables false
set_option linter.unusedSimpArgs false

def fieldL (code : Int) (d : List Int) : List Int := (bytesOf 129 (code :: d)).1
set_option maxRecDepth 100000 in
set_option maxHeartbeats 3200000 in
theorem qfield_is {B n c : Nat} {A : Option Addr} {d : List Int} {code : Int} {w : World} (h : Sl B w A n c d) (hc : 0 ≤ code ∧ code ≤ 255) (hn : n ≤ 60000) :
    Calls Try.prog 32 #[.int .u8 code, .slice A n c] w (SPost w (fieldL code d)) := by
  obtain ⟨i0, hi, hz0, hz1, hz2⟩ := info_parts info_u8
  have HS := Lib.hid h
  have HL := Lib.hid h.len
  have HBL := Lib.hid (show BL (code :: d) from BL.cons hc h.bytes)
  have hq1 : 1 + n ≤ maxLen := by simp [maxLen]; omega
  have hq2 : (1 + n) * 1 ≤ 140737488355328 := by omega
  clear h
  go_enter Try.func32, Try.ntmps32
  go_wp2_with (first | (at_builtin; refine wpList_app _ rfl (.tmp 9) (.tmp 10) 22 rfl w.heap.size 5 i0 _ 1 1 Try.underlying22 hi hz0 hz1 hz2 rfl (by decide) _ 1 1 (bs [code]) rfl (by have := World.ownsRow_lit (base := w.heap.size) (size := 1) (e := 5) w #[.int .u8 code] 1 (Nat.le_refl _) (by simp [maxLen]) rfl; simpa [bs] using this) (w.alloc (.cells #[.int .u8 code] 5)).heap.size A n c (bs d) rfl (HS.out.up ((Up.refl w).alloc _)).rd (one_u8 d) hq1 hq2 (by simp) ?_; intro A3 c3 w5 hown5 hg5 hle5 hmx5 hbl5; have HO5 := Lib.hid hown5; have HB5 := Lib.hid hbl5; have HU5 := Lib.hid (((Up.refl w).alloc (.cells #[.int .u8 code] 5)).past hbl5); clear hown5 hg5 hbl5) | (go_at_call 39; refine (fbytes_is (id := 129) (l := code :: d) (by omega) (Sl.of_own (by have := HO5.out; rw [show bs (code :: d) = bs [code] ++ bs d from rfl]; exact this) hle5 hmx5 (by omega) HBL.out)).mono ?_; rintro e w6 ⟨A6, c6, rfl, hs6, -, hu6⟩; have HS6 := Lib.hid hs6; have HU6 := Lib.hid hu6; clear hs6 hu6))
  go_ret
  exact ⟨A6, c6, rfl, HS6.out.low HU5.out.size, HU5.out.trans HU6.out⟩
/-- a model and its size -/
def isMod (m rows cols : Int) : Prop := (m = 2 ∧ rows = 24 ∧ cols = 80) ∨ (m = 3 ∧ rows = 32 ∧ cols = 80) ∨ (m = 4 ∧ rows = 43 ∧ cols = 80) ∨ (m = 5 ∧ rows = 27 ∧ cols = 132)
theorem isMod.dim {m rows cols : Int} (h : isMod m rows cols) : isDim rows cols := by
  rcases h with ⟨-, h⟩ | ⟨-, h⟩ | ⟨-, h⟩ | ⟨-, h⟩
  · exact .inl h
  · exact .inr (.inl h)
  · exact .inr (.inr (.inl h))
  · exact .inr (.inr (.inr h))
set_option maxRecDepth 100000 in
theorem model_is (m rows cols : Int) (w : World) (h : isMod m rows cols) : Calls Try.prog 37 #[.int .i64 m] w fun e w' => e = .returned (.tuple #[.agg #[.int .i64 rows, .int .i64 cols], .int .i64 0]) ∧ Up w w' := by
  rcases h with ⟨rfl, rfl, rfl⟩ | ⟨rfl, rfl, rfl⟩ | ⟨rfl, rfl, rfl⟩ | ⟨rfl, rfl, rfl⟩
  · go_enter Try.func37, Try.ntmps37
    go_wp2
    exact bodyPost_ret (v := .tuple #[.agg #[.int .i64 24, .int .i64 80], .int .i64 0]) (by simp [results, Try.results37, go_sem]) rfl ⟨rfl, by (repeat (first | with_reducible exact Up.refl _ | with_reducible refine Up.alloc ?_ _ | with_reducible refine Up.drew ?_ | with_reducible refine Up.drewN ?_ _ | with_reducible refine Up.setCell ?_ (by (try simp) <;> omega) _ | with_reducible assumption | with_reducible refine Up.trans ?_ (by assumption)))⟩
  · go_enter Try.func37, Try.ntmps37
    go_wp2
    exact bodyPost_ret (v := .tuple #[.agg #[.int .i64 32, .int .i64 80], .int .i64 0]) (by simp [results, Try.results37, go_sem]) rfl ⟨rfl, by (repeat (first | with_reducible exact Up.refl _ | with_reducible refine Up.alloc ?_ _ | with_reducible refine Up.drew ?_ | with_reducible refine Up.drewN ?_ _ | with_reducible refine Up.setCell ?_ (by (try simp) <;> omega) _ | with_reducible assumption | with_reducible refine Up.trans ?_ (by assumption)))⟩
  · go_enter Try.func37, Try.ntmps37
    go_wp2
    exact bodyPost_ret (v := .tuple #[.agg #[.int .i64 43, .int .i64 80], .int .i64 0]) (by simp [results, Try.results37, go_sem]) rfl ⟨rfl, by (repeat (first | with_reducible exact Up.refl _ | with_reducible refine Up.alloc ?_ _ | with_reducible refine Up.drew ?_ | with_reducible refine Up.drewN ?_ _ | with_reducible refine Up.setCell ?_ (by (try simp) <;> omega) _ | with_reducible assumption | with_reducible refine Up.trans ?_ (by assumption)))⟩
  · go_enter Try.func37, Try.ntmps37
    go_wp2
    exact bodyPost_ret (v := .tuple #[.agg #[.int .i64 27, .int .i64 132], .int .i64 0]) (by simp [results, Try.results37, go_sem]) rfl ⟨rfl, by (repeat (first | with_reducible exact Up.refl _ | with_reducible refine Up.alloc ?_ _ | with_reducible refine Up.drew ?_ | with_reducible refine Up.drewN ?_ _ | with_reducible refine Up.setCell ?_ (by (try simp) <;> omega) _ | with_reducible assumption | with_reducible refine Up.trans ?_ (by assumption)))⟩
def saysL (code rows cols k : Int) : List Int :=
  if code = 128 then codesL
  else if code = 129 then ([1, 0] : List Int) ++ twoL cols ++ twoL rows ++ ([1, 0, 10, 2, 229, 0, 2, 0, 111, 9, 12] : List Int) ++ twoL (rows * cols)
  else if code = 133 then ([130, 0, 9, 12, 0, 0, 0, 0, 7, 0, 0, 0] : List Int) ++ twoL k ++ ([2, 241, 3, 1, 54] : List Int)
  else if code = 134 then ([0, 8, 0, 244] : List Int) ++ colL
  else if code = 135 then ([5, 0, 240, 241, 241, 242, 242, 244, 244, 248, 248] : List Int)
  else if code = 136 then ([0, 1, 2] : List Int)
  else ([0, 0, 11, 1, 0, 0, 80, 0, 24] : List Int) ++ twoL cols ++ twoL rows
theorem code_cases {code : Int} (h : code ∈ codesL) : code = 128 ∨ code = 129 ∨ code = 133 ∨ code = 134 ∨ code = 135 ∨ code = 136 ∨ code = 166 := by
  simpa [codesL] using h
theorem says_is (code rows cols k : Int) (pv : Value) (w : World) (hc : code ∈ codesL) (hd : isDim rows cols) (hp : PgV w pv k) (hk : 0 ≤ k ∧ k ≤ 65535) :
    Calls Try.prog 38 #[.int .u8 code, .agg #[.int .i64 rows, .int .i64 cols], pv] w (SPost w (saysL code rows cols k)) := by
  rcases code_cases hc with rfl | rfl | rfl | rfl | rfl | rfl | rfl
  · exact says_128 rows cols k pv w hd hp hk
  · exact says_129 rows cols k pv w hd hp hk
  · exact says_133 rows cols k pv w hd hp hk
  · exact says_134 rows cols k pv w hd hp hk
  · exact says_135 rows cols k pv w hd hp hk
  · exact says_136 rows cols k pv w hd hp hk
  · exact says_166 rows cols k pv w hd hp hk
theorem says_len {code rows cols k : Int} (hc : code ∈ codesL) : 3 ≤ (saysL code rows cols k).length ∧ (saysL code rows cols k).length ≤ 21 := by
  rcases code_cases hc with rfl | rfl | rfl | rfl | rfl | rfl | rfl <;> simp [saysL, codesL, twoL, colL]
def replyL (rows cols k code : Int) : List Int := fieldL code (saysL code rows cols k)
theorem reply_len {code rows cols k : Int} (hc : code ∈ codesL) : 7 ≤ (replyL rows cols k code).length ∧ (replyL rows cols k code).length ≤ 25 := by
  have h := says_len (rows := rows) (cols := cols) (k := k) hc
  unfold replyL fieldL bytesOf
  rw [if_neg (by rw [List.length_cons]; omega)]
  simp only [List.length_append, List.length_cons, List.length_nil]
  omega
set_option maxRecDepth 100000 in
set_option maxHeartbeats 3200000 in
theorem reply_is (code m rows cols k : Int) (pv : Value) (w : World) (hc : code ∈ codesL) (hm : isMod m rows cols) (hp : PgV w pv k) (hk : 0 ≤ k ∧ k ≤ 65535) :
    Calls Try.prog 31 #[.int .u8 code, .int .i64 m, pv] w fun e w' => ∃ A c, e = .returned (.tuple #[.slice A (replyL rows cols k code).length c, .bool true]) ∧ Sl w.heap.size w' A (replyL rows cols k code).length c (replyL rows cols k code) ∧ Up w w' := by
  have HC := Lib.hid hc
  have HM := Lib.hid hm
  have HP := Lib.hid hp
  have HK := Lib.hid hk
  have hsl := says_len (rows := rows) (cols := cols) (k := k) hc
  have hcb := Lib.hid (codes_bd code hc)
  obtain ⟨D, hD⟩ : ∃ D, saysL code rows cols k = D := ⟨_, rfl⟩
  have HSAY := Lib.hid (fun W (h : PgV W pv k) => says_is code rows cols k pv W hc hm.dim h hk)
  rw [hD] at hsl HSAY
  have hR : replyL rows cols k code = fieldL code D := by unfold replyL; rw [hD]
  rw [hR]
  obtain ⟨N, hN⟩ : ∃ N, D.length = N := ⟨_, rfl⟩
  rw [hN] at hsl
  have HN := Lib.hid hN
  have hN0 : (0 : Int) < (N : Int) := by omega
  have hN9 : (N : Int) ≤ 65536 := by omega
  clear hc hm hp hk hD hR hN
  go_enter Try.func31, Try.ntmps31
  go_wp2_with fail
  refine (model_is m rows cols _ HM.out).mono ?_
  rintro e w1 ⟨rfl, hu1⟩
  have HU1 := Lib.hid hu1
  clear hu1
  go_wp2_with fail
  refine (HSAY.out _ (HP.out.up (HU1.out.alloc _))).mono ?_
  rintro e w2 ⟨A2, c2, rfl, hs2, hu2⟩
  rw [HN.out] at hs2
  rw [HN.out]
  have HS2 := Lib.hid hs2
  have HU2 := Lib.hid ((HU1.out.alloc _).trans hu2)
  clear hs2 hu2
  go_wp2_with fail
  refine (qfield_is HS2.out hcb.out (by omega)).mono ?_
  rintro e w3 ⟨A3, c3, rfl, hs3, hu3⟩
  have HS3 := Lib.hid hs3
  have HU3 := Lib.hid hu3
  clear hs3 hu3
  go_wp2_with fail
  go_ret2
  exact ⟨A3, c3, rfl, HS3.out.low HU2.out.size, HU2.out.trans HU3.out⟩
/-- the replies to these codes, one behind the other -/
def bodyL (rows cols k : Int) (cs : List Int) : List Int := 136 :: cs.flatMap (replyL rows cols k)
def someL (rows cols k : Int) (cs : List Int) : List Int := if cs.length = 0 then bodyL rows cols k cs ++ fieldL 255 [] else bodyL rows cols k cs
theorem body_snoc {rows cols k : Int} {cs : List Int} {j : Nat} {x : Int} (h : cs[j]? = some x) : bodyL rows cols k (cs.take (j + 1)) = bodyL rows cols k (cs.take j) ++ replyL rows cols k x := by
  unfold bodyL
  rw [take_snoc h, List.flatMap_append]
  simp
theorem body_len {rows cols k : Int} : ∀ cs : List Int, (∀ x ∈ cs, x ∈ codesL) → 1 + 7 * cs.length ≤ (bodyL rows cols k cs).length ∧ (bodyL rows cols k cs).length ≤ 1 + 25 * cs.length := by
  intro cs h
  unfold bodyL
  rw [List.length_cons]
  induction cs with
  | nil => simp
  | cons y ys ih =>
    have h1 := reply_len (rows := rows) (cols := cols) (k := k) (h y (by simp))
    have h2 := ih (fun x hx => h x (by simp [hx]))
    rw [List.flatMap_cons, List.length_append, List.length_cons]
    omega
theorem fieldL_bl {code : Int} {d : List Int} (hc : 0 ≤ code ∧ code ≤ 255) (hd : BL d) (hn : d.length ≤ 8000) : BL (fieldL code d) := by
  unfold fieldL bytesOf
  rw [if_neg (by rw [List.length_cons]; omega)]
  refine BL.app (BL.cons ?_ (BL.cons ?_ (BL.cons (by omega) BL.nil))) (BL.cons hc hd)
  · rw [List.length_cons]; omega
  · omega
theorem colL_bl : BL colL := by unfold BL; decide
theorem says_bl {code rows cols k : Int} (hc : code ∈ codesL) (hd : isDim rows cols) (hk : 0 ≤ k ∧ k ≤ 65535) : BL (saysL code rows cols k) := by
  obtain ⟨⟨a, b⟩, ⟨e, f⟩, g, i⟩ := hd.bd
  rcases code_cases hc with rfl | rfl | rfl | rfl | rfl | rfl | rfl
  · exact codes_bd
  · exact BL.app (BL.app (BL.app (BL.app (by unfold BL; decide) (twoL_bl e f)) (twoL_bl a b)) (by unfold BL; decide)) (twoL_bl g i)
  · exact BL.app (BL.app (by unfold BL; decide) (twoL_bl hk.1 hk.2)) (by unfold BL; decide)
  · exact BL.app (by unfold BL; decide) colL_bl
  · show BL [5, 0, 240, 241, 241, 242, 242, 244, 244, 248, 248]
    unfold BL; decide
  · show BL [0, 1, 2]
    unfold BL; decide
  · exact BL.app (BL.app (by unfold BL; decide) (twoL_bl e f)) (twoL_bl a b)
theorem body_bl {rows cols k : Int} {cs : List Int} (h : ∀ x ∈ cs, x ∈ codesL) (hd : isDim rows cols) (hk : 0 ≤ k ∧ k ≤ 65535) : BL (bodyL rows cols k cs) := by
  refine BL.cons (by omega) ?_
  intro y hy
  obtain ⟨x, hx, hyx⟩ := List.mem_flatMap.1 hy
  have := says_len (rows := rows) (cols := cols) (k := k) (h x hx)
  exact fieldL_bl (codes_bd x (h x hx)) (says_bl (h x hx) hd hk) (by omega) y hyx
set_option maxRecDepth 100000 in
set_option maxHeartbeats 6400000 in
theorem some_is {B n c : Nat} {A : Option Addr} {cs : List Int} (m rows cols k : Int) (pv : Value) (w : World) (h : Sl B w A n c cs) (hcs : ∀ x ∈ cs, x ∈ codesL) (hn : n ≤ 1000) (hm : isMod m rows cols) (hp : PgV w pv k) (hk : 0 ≤ k ∧ k ≤ 65535) :
    Calls Try.prog 22 #[.slice A n c, .int .i64 m, pv] w (SPost w (someL rows cols k cs)) := by
  obtain ⟨i0, hi, hz0, hz1, hz2⟩ := info_parts info_u8
  have HS := Lib.hid h
  have HL := Lib.hid h.len
  have HCS := Lib.hid hcs
  have HM := Lib.hid hm
  have HP := Lib.hid hp
  have HK := Lib.hid hk
  have HBB := Lib.hid (body_bl hcs hm.dim hk)
  clear h hcs hm hp hk
  go_enter Try.func22, Try.ntmps22
  go_wp2_with fail
  go_loopw [7, 15] (fun v i wr => ∃ (j : Nat) (A1 : Option Addr) (c1 m1 : Nat), i = .int .i64 (j : Int) ∧ v = .slice A1 m1 c1 ∧ j ≤ n ∧ m1 = (bodyL rows cols k (cs.take j)).length ∧ wr.ownsRow w.heap.size 5 1 (.slice A1 m1 c1) m1 (bs (bodyL rows cols k (cs.take j))) ∧ m1 ≤ c1 ∧ c1 ≤ maxLen ∧ Up w wr) (fun _ i _ => n - (intOf i).toNat)
  case atStart =>
    have := World.ownsRow_lit (base := w.heap.size) (size := 1) (e := 5) w #[.int .u8 136] 1 (Nat.le_refl _) (by simp [maxLen]) rfl
    exact ⟨0, some ⟨w.heap.size, 0, none⟩, 1, 1, rfl, rfl, Nat.zero_le _, rfl, this, Nat.le_refl _, by simp [maxLen], (Up.refl w).alloc _⟩
  case round =>
    obtain ⟨j, A1, c1, m1, rfl, rfl, hj, hm1, hown, hle, hmx, hup⟩ := hrel
    have HOW := Lib.hid hown
    have HUP := Lib.hid hup
    have HM1 := Lib.hid hm1
    have hwr : w.heap.size ≤ wr.heap.size := hup.size
    have hbl := body_len (rows := rows) (cols := cols) (k := k) (cs.take j) (fun x hx => HCS.out x (List.mem_of_mem_take hx))
    rw [List.length_take] at hbl
    have hln := HL.out
    have hm2 : m1 ≤ 30000 := by rw [hm1]; omega
    clear hown hup
    by_cases hlt : j < n
    · obtain ⟨b, off, rfl, hb⟩ := HS.out.form (by omega)
      have x0 := (HS.out.up HUP.out).cell (i := j) hlt
      have hxj : cs[j]? = some (cs.getD j 0) := by
        rw [List.getD_eq_getElem?_getD]
        have : j < cs.length := by omega
        simp [this]
      obtain ⟨x, hx⟩ : ∃ x, cs.getD j 0 = x := ⟨_, rfl⟩
      rw [hx] at x0 hxj
      have HXJ := Lib.hid hxj
      have hxc := HCS.out x (List.mem_of_getElem? hxj)
      have HREP := Lib.hid (fun W (h : PgV W pv k) => reply_is x m rows cols k pv W hxc HM.out h HK.out)
      have hrl := reply_len (rows := rows) (cols := cols) (k := k) hxc
      have HSN := Lib.hid (body_snoc (rows := rows) (cols := cols) (k := k) hxj)
      obtain ⟨D, hD⟩ : ∃ D, replyL rows cols k x = D := ⟨_, rfl⟩
      rw [hD] at HREP hrl HSN
      have hlt' : (j : Int) < (n : Int) := by omega
      have hbr : b < wr.heap.size := by have := HUP.out.size; omega
      obtain ⟨BJ, hBJ⟩ : ∃ BJ, bodyL rows cols k (cs.take j) = BJ := ⟨_, rfl⟩
      rw [hBJ] at HSN HOW HM1
      have hq1 : m1 + D.length ≤ maxLen := by simp [maxLen]; omega
      have hq2 : (m1 + D.length) * 1 ≤ 140737488355328 := by omega
      clear hx hxj hxc hD hm1 hbl hln hBJ
      go_wp2_with (first | (go_at_call 31; refine (HREP.out _ (HP.out.up HUP.out)).mono ?_; rintro e w4 ⟨A4, c4, rfl, hs4, hu4⟩; have HS4 := Lib.hid hs4; have HU4 := Lib.hid hu4; have hz4 := hu4.size; clear hs4 hu4) | (at_builtin; refine wpList_app _ rfl (.tmp 26) (.tmp 27) 22 rfl w.heap.size 5 i0 _ 1 1 Try.underlying22 hi hz0 hz1 hz2 rfl (by decide) A1 m1 c1 (bs BJ) rfl (own_up HOW.out HU4.out) w4.heap.size A4 D.length c4 (bs D) rfl HS4.out.rd (one_u8 D) hq1 hq2 (by omega) ?_; intro A3 c3 w5 hown5 hg5 hle5 hmx5 hbl5; have HO5 := Lib.hid hown5; have HB5 := Lib.hid hbl5; clear hown5 hg5 hbl5))
      go_roundw
      case rel =>
        refine ⟨j + 1, A3, c3, m1 + D.length, by go_num, rfl, by omega, by rw [HSN.out, List.length_append, HM1.out], ?_, hle5, hmx5, (HUP.out.trans HU4.out).past HB5.out⟩
        rw [HSN.out]
        have e9 : bs (BJ ++ D) = bs BJ ++ bs D := by simp [bs]
        rw [e9]
        exact HO5.out
      case measure => simp [intOf]; omega
    · obtain rfl : j = n := by omega
      have hall : cs.take j = cs := List.take_of_length_le (by omega)
      have hoo := HOW.out
      rw [hall] at hoo hm1
      have hb2 := body_len (rows := rows) (cols := cols) (k := k) cs HCS.out
      have HO := Lib.hid hoo
      by_cases h0 : j = 0
      · have e0 : cs = [] := List.eq_nil_of_length_eq_zero (by omega)
        have hm11 : m1 = 1 := by rw [hm1, e0]; rfl
        have hsm : someL rows cols k cs = [136] ++ fieldL 255 [] := by unfold someL; rw [if_pos (by omega), e0]; rfl
        have hbd1 : bodyL rows cols k cs = [136] := by rw [e0]; rfl
        rw [hbd1] at hoo
        have HSM := Lib.hid hsm
        have HO1 := Lib.hid hoo
        subst hm11
        have hf : fieldL 255 [] = [0, 4, 129, 255] := by decide
        clear hoo hm1 hall hb2 hbl hln e0 hsm hbd1
        have HF := Lib.hid hf
        go_wp2_with (first | (go_at_call 32; refine (qfield_is (B := 0) (code := 255) (d := []) Sl.none_ (by omega) (by omega)).mono ?_; rintro e w4 ⟨A4, c4, rfl, hs4, hu4⟩; have HS4 := Lib.hid hs4; have HU4 := Lib.hid hu4; have hz4 := hu4.size; clear hs4 hu4) | (at_builtin; refine wpList_app _ rfl (.tmp 33) (.tmp 34) 22 rfl w.heap.size 5 i0 _ 1 1 Try.underlying22 hi hz0 hz1 hz2 rfl (by decide) A1 1 c1 (bs [136]) rfl (own_up HO1.out HU4.out) w4.heap.size A4 (fieldL 255 []).length c4 (bs (fieldL 255 [])) rfl HS4.out.rd (one_u8 _) (by rw [HF.out]; simp [maxLen]) (by rw [HF.out]; simp) (by omega) ?_; intro A3 c3 w5 hown5 hg5 hle5 hmx5 hbl5; have HO5 := Lib.hid hown5; have HB5 := Lib.hid hbl5; clear hown5 hg5 hbl5))
        go_ret
        rw [HSM.out, HF.out]
        refine SPost.of rfl rfl (Sl.of_own (by have := HO5.out; rw [HF.out] at this; exact this) hle5 hmx5 (by simp) (by unfold BL; decide)) ((HUP.out.trans HU4.out).past HB5.out)
      · have e1 : ((m1 : Int) == 1) = false := by simp; omega
        have hsm : someL rows cols k cs = bodyL rows cols k cs := by unfold someL; rw [if_neg (by omega)]
        have HSM := Lib.hid hsm
        have HM2 := Lib.hid hm1
        clear hoo hm1 hall hb2 hbl hln hsm
        go_wp2_with fail
        go_ret
        rw [HSM.out]
        exact SPost.of rfl HM2.out.symm (Sl.of_own HO.out hle hmx (by omega) HBB.out) HUP.out
theorem all_is (m rows cols k : Int) (pv : Value) (w : World) (hm : isMod m rows cols) (hp : PgV w pv k) (hk : 0 ≤ k ∧ k ≤ 65535) :
    Calls Try.prog 8 #[.int .i64 m, pv] w (SPost w (bodyL rows cols k codesL)) := by
  have HM := Lib.hid hm
  have HP := Lib.hid hp
  have HK := Lib.hid hk
  clear hm hp hk
  have hsm : someL rows cols k codesL = bodyL rows cols k codesL := rfl
  have HSM := Lib.hid hsm
  clear hsm
  go_enter Try.func8, Try.ntmps8
  go_wp2_with fail
  refine (qcodes_is _).mono ?_
  rintro e w1 ⟨A1, c1, rfl, hs1, hu1⟩
  have HS1 := Lib.hid hs1
  have HU1 := Lib.hid hu1
  clear hs1 hu1
  go_wp2_with fail
  refine (some_is m rows cols k pv _ HS1.out (fun x hx => hx) (by decide) HM.out (HP.out.up HU1.out) HK.out).mono ?_
  rintro e w2 ⟨A2, c2, rfl, hs2, hu2⟩
  rw [HSM.out] at hs2
  rw [HSM.out]
  have HS2 := Lib.hid hs2
  have HU2 := Lib.hid hu2
  clear hs2 hu2
  go_wp2_with fail
  go_ret
  exact ⟨A2, c2, rfl, HS2.out.low HU1.out.size, HU1.out.trans HU2.out⟩
end Go.Proofs.Ytfknakcjhlonoaa
