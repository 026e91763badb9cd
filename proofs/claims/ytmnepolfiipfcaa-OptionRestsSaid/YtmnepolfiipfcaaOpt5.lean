/-
  What option's Hear and Ask do at any verb and side of a machine; Index, Contains over bytes; telnet's Say. No condition.
-/
import Derived.Test.YtmnepolfiipfcaaOpt4
namespace Go.Proofs.Ytmnepolfiipfcaa
open Go.RowKit
set_option linter.unusedVariables false
set_option linter.unusedSimpArgs false

def isVerb (v : Int) : Prop := v = 251 ∨ v = 252 ∨ v = 253 ∨ v = 254
instance (v : Int) : Decidable (isVerb v) := inferInstanceAs (Decidable (_ ∨ _))
def hearS (v : Int) (k : Nat) (S : Nat → Nat → Int) (G : Nat → Nat → Bool) : Nat → Nat → Int :=
  if isVerb v then fun i' o' => if i' = sideOf v ∧ o' = k then nextOf v (S (sideOf v) k) (G (sideOf v) k) else S i' o' else S
def hearL (v : Int) (k : Nat) (S : Nat → Nat → Int) (G : Nat → Nat → Bool) : List (Int × Int) :=
  if isVerb v then sayL (sideOf v) (wordOf v (S (sideOf v) k) (G (sideOf v) k)) k else []
def hearE (v : Int) : Int := if isVerb v then 0 else 1
def askN (t : Bool) (s : Int) : Int := if t then askOnN s else askOffN s
def askW (t : Bool) (s : Int) : Int := if t then askOnW s else askOffW s
def askK (t : Bool) (s : Int) : Bool := if t then askOnK s else askOffK s
def isSide (i : Int) : Prop := i = 0 ∨ i = 1
instance (i : Int) : Decidable (isSide i) := inferInstanceAs (Decidable (_ ∨ _))
def askS (i : Int) (k : Nat) (t : Bool) (S : Nat → Nat → Int) : Nat → Nat → Int :=
  if isSide i then fun i' o' => if i' = i.toNat ∧ o' = k then askN t (S i.toNat k) else S i' o' else S
def askL (i : Int) (k : Nat) (t : Bool) (S : Nat → Nat → Int) : List (Int × Int) :=
  if isSide i then (if askK t (S i.toNat k) then sayL i (askW t (S i.toNat k)) k else []) else []
def askE (i : Int) (k : Nat) (t : Bool) (S : Nat → Nat → Int) : Int :=
  if isSide i then (if askK t (S i.toNat k) then 0 else 6) else 1
/-- the words and the error that come back, and what the machine is then -/
def AnsPost (b : Nat) (S' : Nat → Nat → Int) (G : Nat → Nat → Bool) (L : List (Int × Int)) (E : Int) (w : World) (e : Ending) (w' : World) : Prop :=
  ∃ A n c, e = .returned (.tuple #[.slice A n c, .int .i64 E]) ∧ n = L.length ∧ Reads w' w'.heap.size 2 A n (ms L) ∧ (∀ p, A = some p → w.heap.size ≤ p.block) ∧ MAt w' b S' G ∧ Near b w w'
theorem hear_any (b k : Nat) (v : Int) (S : Nat → Nat → Int) (G : Nat → Nat → Bool) (w : World) (hm : MAt w b S G) (hb : b < w.heap.size) (hk : k < 256) :
    Calls Try.prog 11 #[.pointer (some ⟨b, 0, none⟩), .int .u8 v, .int .u8 (k : Int)] w (AnsPost b (hearS v k S G) G (hearL v k S G) (hearE v) w) := by
  by_cases hv : isVerb v
  · simp only [hearS, hearL, hearE, if_pos hv]
    rcases hv with rfl | rfl | rfl | rfl
    · exact hear_251 b k S G w hm hb hk
    · exact hear_252 b k S G w hm hb hk
    · exact hear_253 b k S G w hm hb hk
    · exact hear_254 b k S G w hm hb hk
  · simp only [hearS, hearL, hearE, if_neg hv]
    refine (hear_other _ v k w (by simp) (fun e => hv (.inl e)) (fun e => hv (.inr (.inl e))) (fun e => hv (.inr (.inr (.inl e)))) (fun e => hv (.inr (.inr (.inr e))))).mono ?_
    rintro e w' ⟨rfl, rfl⟩
    exact ⟨none, 0, 0, rfl, rfl, reads_two _ _, (fun p h => by cases h), hm, Near.refl _ _⟩
theorem ans_of_ask {b i k : Nat} {S : Nat → Nat → Int} {G : Nat → Nat → Bool} {nx wd : Int} {ok : Bool} {w : World} {e : Ending} {w' : World} (h : AskPost b i k S G nx wd ok w e w') :
    AnsPost b (fun i' o' => if i' = i ∧ o' = k then nx else S i' o') G (if ok then sayL i wd k else []) (if ok then 0 else 6) w e w' := by
  obtain ⟨⟨A, n, c, h1, h2, h3, h4⟩, h5, h6⟩ := h
  exact ⟨A, n, c, h1, h2, h3, h4, h5, h6⟩
theorem ask_any (b k : Nat) (i : Int) (t : Bool) (S : Nat → Nat → Int) (G : Nat → Nat → Bool) (w : World) (hm : MAt w b S G) (hb : b < w.heap.size) (hk : k < 256) :
    Calls Try.prog 14 #[.pointer (some ⟨b, 0, none⟩), .int .i64 i, .int .u8 (k : Int), .bool t] w (AnsPost b (askS i k t S) G (askL i k t S) (askE i k t S) w) := by
  by_cases hi : isSide i
  · simp only [askS, askL, askE, if_pos hi]
    rcases hi with rfl | rfl
    · cases t
      · exact (ask_askOff0 b k S G w hm hb hk).mono fun _ _ h => ans_of_ask h
      · exact (ask_askOn0 b k S G w hm hb hk).mono fun _ _ h => ans_of_ask h
    · cases t
      · exact (ask_askOff1 b k S G w hm hb hk).mono fun _ _ h => ans_of_ask h
      · exact (ask_askOn1 b k S G w hm hb hk).mono fun _ _ h => ans_of_ask h
  · simp only [askS, askL, askE, if_neg hi]
    refine (ask_side _ i k t w (by simp) (fun e => hi (.inl e)) (fun e => hi (.inr e))).mono ?_
    rintro e w' ⟨rfl, rfl⟩
    exact ⟨none, 0, 0, rfl, rfl, reads_two _ _, (fun p h => by cases h), hm, Near.refl _ _⟩

/-- the states are the six -/
def okS (S : Nat → Nat → Int) : Prop := ∀ i o, 0 ≤ S i o ∧ S i o ≤ 5
theorem onNext_ok (s : Int) (g : Bool) : 0 ≤ onNext s g ∧ onNext s g ≤ 5 := by
  unfold onNext; repeat' split
  all_goals omega
theorem offNext_ok (s : Int) : 0 ≤ offNext s ∧ offNext s ≤ 5 := by
  unfold offNext; repeat' split
  all_goals omega
theorem okS_set {S : Nat → Nat → Int} {i k : Nat} {x : Int} (h : okS S) (hx : 0 ≤ x ∧ x ≤ 5) : okS (fun i' o' => if i' = i ∧ o' = k then x else S i' o') := by
  intro i' o'
  show 0 ≤ (if i' = i ∧ o' = k then x else S i' o') ∧ (if i' = i ∧ o' = k then x else S i' o') ≤ 5
  split
  · exact hx
  · exact h _ _
theorem askN_ok (t : Bool) (s : Int) (h : 0 ≤ s ∧ s ≤ 5) : 0 ≤ askN t s ∧ askN t s ≤ 5 := by
  unfold askN askOnN askOffN; repeat' split
  all_goals omega
theorem nextOf_ok (v s : Int) (g : Bool) : 0 ≤ nextOf v s g ∧ nextOf v s g ≤ 5 := by
  unfold nextOf; split
  · exact onNext_ok _ _
  · exact offNext_ok _
theorem hearS_ok {v : Int} {k : Nat} {S : Nat → Nat → Int} {G : Nat → Nat → Bool} (h : okS S) : okS (hearS v k S G) := by
  unfold hearS
  split
  · exact okS_set h (nextOf_ok _ _ _)
  · exact h
theorem askS_ok {i : Int} {k : Nat} {t : Bool} {S : Nat → Nat → Int} (h : okS S) : okS (askS i k t S) := by
  unfold askS
  split
  · exact okS_set h (askN_ok _ _ (h _ _))
  · exact h
theorem sayL_len (i wd o : Int) : (sayL i wd o).length ≤ 1 := by unfold sayL; split <;> simp
theorem hearL_len (v : Int) (k : Nat) (S : Nat → Nat → Int) (G : Nat → Nat → Bool) : (hearL v k S G).length ≤ 1 := by
  unfold hearL; split
  · exact sayL_len _ _ _
  · simp
theorem askL_len (i : Int) (k : Nat) (t : Bool) (S : Nat → Nat → Int) : (askL i k t S).length ≤ 1 := by
  unfold askL; repeat' split
  · exact sayL_len _ _ _
  · simp
  · simp

theorem bs_at' {w : World} {B b off n : Nat} {l : List Int} (hr : Reads w B 1 (some ⟨b, off, none⟩) n (bs l)) (j : Nat) (hj : j < n) : w.cell? ⟨b, off + j, none⟩ = some (.int .u8 (l.getD j 0)) := bs_at hr j hj
theorem getD_mem {l : List Int} {j : Nat} (h : j < l.length) : l.getD j 0 ∈ l := by rw [List.getD, List.getElem?_eq_getElem h]; exact List.getElem_mem _
theorem take_mem (l : List Int) (j : Nat) (hj : j < l.length) (x : Int) : x ∈ l.take (j + 1) ↔ x = l.getD j 0 ∨ x ∈ l.take j := by
  rw [List.take_succ_eq_append_getElem hj, List.getD, List.getElem?_eq_getElem hj, List.mem_append, List.mem_singleton, Or.comm]; rfl
set_option maxHeartbeats 800000 in
theorem index_any (A : Option Addr) (n c B : Nat) (l : List Int) (x : Int) (w : World) (hr : Reads w B 1 A n (bs l)) (hn : n ≤ 9223372036854775807) :
    Calls Try.prog 32 #[.slice A n c, .int .u8 x] w fun e w' => ∃ r : Int, e = .returned (.int .i64 r) ∧ decide (0 ≤ r) = decide (x ∈ l) ∧ w = w' := by
  have hl : l.length = n := by have := hr.1; simpa [bs] using this
  go_enter Try.func32, Try.ntmps32
  go_wp2
  go_loop [5, 8] (fun _ i => ∃ j : Nat, j ≤ n ∧ i = .int .i64 (j : Int) ∧ x ∉ l.take j) (fun _ i => n - (intOf i).toNat)
  case atStart => exact ⟨0, by omega, rfl, by simp⟩
  case round =>
    obtain ⟨j, hj, rfl, hx⟩ := hrel
    by_cases hlt : j < n
    · obtain ⟨b, off, rfl, hb⟩ := hr.form (by omega)
      have hc := bs_at hr j hlt
      have htk := take_mem l j (by omega) x
      have hmem : l.getD j 0 ∈ l := getD_mem (by omega)
      generalize l.getD j 0 = y at hc htk hmem
      by_cases hy : x = y
      · subst hy
        have hd : decide (x ∈ l) = true := by simpa using hmem
        have HD := Lib.hid hd
        clear hd htk hx hmem
        go_wp2
        go_ret
        exact ⟨_, rfl, by have := of_decide_eq_true HD.out; simp [this], rfl⟩
      · have e : (x == y) = false := by simpa using hy
        have HT := Lib.hid (fun h => (htk.1 h).elim hy hx)
        clear htk hx hmem
        go_wp2
        go_round
        case rel => exact ⟨j + 1, by omega, by go_num, HT.out⟩
        case measure => simp [intOf]; omega
    · obtain rfl : j = n := by omega
      rw [List.take_of_length_le (by omega)] at hx
      have HX := Lib.hid hx
      clear hx
      go_wp2
      go_ret
      exact ⟨_, rfl, by have := HX.out; simp [this], rfl⟩
theorem contains_any {A : Option Addr} {n c B : Nat} {l : List Int} {x : Int} {w : World} {t : Bool} (hr : Reads w B 1 A n (bs l)) (hn : n ≤ 9223372036854775807) (ht : decide (x ∈ l) = t) :
    Calls Try.prog 12 #[.slice A n c, .int .u8 x] w fun e w' => e = .returned (.bool t) ∧ w = w' := by
  subst ht
  go_enter Try.func12, Try.ntmps12
  go_wp2_with fail
  refine (index_any _ _ _ _ _ _ _ hr hn).mono ?_
  rintro e w' ⟨r, rfl, hd, rfl⟩
  have HD := Lib.hid hd
  clear hd
  go_wp2_with fail
  go_ret
  exact ⟨ret_bool HD.out, rfl⟩
end Go.Proofs.Ytmnepolfiipfcaa
