/-
What option's Ask does at a machine. No condition.
What option's Hear and Ask do at any verb and side of a machine; Index, Contains over bytes; telnet's Say. No condition.
option's New, Hear, Ask, State, On in the form in which the laws meet them; the laws' awake. No condition.
Rows of structs; what is said to an option that isn't agreed to; Cut with its blocks. No condition.
A message's bytes; what is said is one word of that option. No condition.
A link as it lies in memory: its parts have blocks apart from one another; what a step upon one part leaves of the others. No condition.
-/
import Derived.Test.YtamfjgioajmnpaaGreatDoorJa30
import Derived.Test.YtamfjgioajmnpaaGreatDoorJa4
import Derived.Test.YtamfjgioajmnpaaGreatDoorJa28
import Derived.Test.YtamfjgioajmnpaaGreatDoorJa29
namespace Go.Proofs.YtamfjgioajmnpaaGreatDoor
open Go.RowKit
set_option linter.unusedVariables false
set_option linter.unusedSimpArgs false

theorem askOnW_in (s : Int) : askOnW s = 0 ∨ askOnW s = 1 ∨ askOnW s = 2 := by
  unfold askOnW; split <;> simp
theorem askOffW_in (s : Int) : askOffW s = 0 ∨ askOffW s = 1 ∨ askOffW s = 2 := by
  unfold askOffW; split <;> simp
/-- what asking leaves: the words and no error, or none and the error -/
def AskPost (b i k : Nat) (S : Nat → Nat → Int) (G : Nat → Nat → Bool) (nx wd : Int) (ok : Bool) (w : World) (e : Ending) (w' : World) : Prop :=
  (∃ A n c, e = .returned (.tuple #[.slice A n c, .int .i64 (if ok then 0 else 6)]) ∧ n = (if ok then sayL i wd k else []).length ∧ Reads w' w'.heap.size 2 A n (ms (if ok then sayL i wd k else [])) ∧ ∀ p, A = some p → w.heap.size ≤ p.block) ∧ MAt w' b (fun i' o' => if i' = i ∧ o' = k then nx else S i' o') G ∧ Near b w w'
set_option maxRecDepth 100000 in
set_option maxHeartbeats 1600000 in
theorem ask_askOn0 (b k : Nat) (S : Nat → Nat → Int) (G : Nat → Nat → Bool) (w : World) (hm : MAt w b S G) (hb : b < w.heap.size) (hk : k < 256) :
    Calls Tryz.prog 29 #[.pointer (some ⟨b, 0, none⟩), .int .i64 0, .int .u8 (k : Int), .bool true] w (AskPost b 0 k S G (askOnN (S 0 k)) (askOnW (S 0 k)) (askOnK (S 0 k)) w) := by
  obtain ⟨⟨q1, q2⟩, q3, q4⟩ := hm 0 k (by omega) hk
  have hk' : (k : Int) < 256 := by omega
  have hset := hm.setS 0 k (by omega) hk (askOnN (S 0 k))
  simp only [Nat.mul_zero, Nat.zero_add] at q1 q2 q3 q4 hset
  have HM := Lib.hid hset
  clear hm hset
  cases hok : askOnK (S 0 k)
  · go_enter Tryz.func29, Tryz.ntmps29
    go_wp2_with fail
    go_region_with (go_at_call 71; refine (askOn_is _ _ _ _ _ hk (by simpa using q1)).mono ?_; rintro e w' ⟨rfl, rfl⟩)
    go_wp2_with fail
    go_ret2
    exact ⟨⟨none, 0, 0, rfl, rfl, reads_two _ _, (fun p h => by cases h)⟩, HM.out, Near.set _ _ _ _⟩
  · go_enter Tryz.func29, Tryz.ntmps29
    go_wp2_with fail
    go_region_with (go_at_call 71; refine (askOn_is _ _ _ _ _ hk (by simpa using q1)).mono ?_; rintro e w' ⟨rfl, rfl⟩)
    go_wp2_with fail
    refine (said_is _ _ _ _ (by omega) (askOnW_in ..)).mono ?_
    rintro e w3 ⟨A, n, c, rfl, rfl, hr, hnew, hu⟩
    go_wp2_with fail
    go_ret2
    exact ⟨⟨A, _, c, rfl, rfl, hr, (fun p h => by simpa using hnew p h)⟩, MAt.up (w := (w.setCell ⟨b, k, none⟩ (.int .u8 (askOnN (S 0 k)))).drew) HM.out hu (by simpa using hb), (Near.set _ _ _ _).up hu⟩
set_option maxRecDepth 100000 in
set_option maxHeartbeats 1600000 in
theorem ask_askOn1 (b k : Nat) (S : Nat → Nat → Int) (G : Nat → Nat → Bool) (w : World) (hm : MAt w b S G) (hb : b < w.heap.size) (hk : k < 256) :
    Calls Tryz.prog 29 #[.pointer (some ⟨b, 0, none⟩), .int .i64 1, .int .u8 (k : Int), .bool true] w (AskPost b 1 k S G (askOnN (S 1 k)) (askOnW (S 1 k)) (askOnK (S 1 k)) w) := by
  obtain ⟨⟨q1, q2⟩, q3, q4⟩ := hm 1 k (by omega) hk
  have hk' : (k : Int) < 256 := by omega
  have hset := hm.setS 1 k (by omega) hk (askOnN (S 1 k))
  simp only [Nat.mul_one] at q1 q2 q3 q4 hset
  have HM := Lib.hid hset
  clear hm hset
  cases hok : askOnK (S 1 k)
  · go_enter Tryz.func29, Tryz.ntmps29
    go_wp2_with fail
    go_region_with (go_at_call 71; refine (askOn_is _ _ _ _ _ hk (by simpa using q1)).mono ?_; rintro e w' ⟨rfl, rfl⟩)
    go_wp2_with fail
    go_ret2
    exact ⟨⟨none, 0, 0, rfl, rfl, reads_two _ _, (fun p h => by cases h)⟩, HM.out, Near.set _ _ _ _⟩
  · go_enter Tryz.func29, Tryz.ntmps29
    go_wp2_with fail
    go_region_with (go_at_call 71; refine (askOn_is _ _ _ _ _ hk (by simpa using q1)).mono ?_; rintro e w' ⟨rfl, rfl⟩)
    go_wp2_with fail
    refine (said_is _ _ _ _ (by omega) (askOnW_in ..)).mono ?_
    rintro e w3 ⟨A, n, c, rfl, rfl, hr, hnew, hu⟩
    go_wp2_with fail
    go_ret2
    exact ⟨⟨A, _, c, rfl, rfl, hr, (fun p h => by simpa using hnew p h)⟩, MAt.up (w := (w.setCell ⟨b, 512 + k, none⟩ (.int .u8 (askOnN (S 1 k)))).drew) HM.out hu (by simpa using hb), (Near.set _ _ _ _).up hu⟩
set_option maxRecDepth 100000 in
set_option maxHeartbeats 1600000 in
theorem ask_askOff0 (b k : Nat) (S : Nat → Nat → Int) (G : Nat → Nat → Bool) (w : World) (hm : MAt w b S G) (hb : b < w.heap.size) (hk : k < 256) :
    Calls Tryz.prog 29 #[.pointer (some ⟨b, 0, none⟩), .int .i64 0, .int .u8 (k : Int), .bool false] w (AskPost b 0 k S G (askOffN (S 0 k)) (askOffW (S 0 k)) (askOffK (S 0 k)) w) := by
  obtain ⟨⟨q1, q2⟩, q3, q4⟩ := hm 0 k (by omega) hk
  have hk' : (k : Int) < 256 := by omega
  have hset := hm.setS 0 k (by omega) hk (askOffN (S 0 k))
  simp only [Nat.mul_zero, Nat.zero_add] at q1 q2 q3 q4 hset
  have HM := Lib.hid hset
  clear hm hset
  cases hok : askOffK (S 0 k)
  · go_enter Tryz.func29, Tryz.ntmps29
    go_wp2_with fail
    go_region_with (go_at_call 72; refine (askOff_is _ _ _ _ _ hk (by simpa using q1)).mono ?_; rintro e w' ⟨rfl, rfl⟩)
    go_wp2_with fail
    go_ret2
    exact ⟨⟨none, 0, 0, rfl, rfl, reads_two _ _, (fun p h => by cases h)⟩, HM.out, Near.set _ _ _ _⟩
  · go_enter Tryz.func29, Tryz.ntmps29
    go_wp2_with fail
    go_region_with (go_at_call 72; refine (askOff_is _ _ _ _ _ hk (by simpa using q1)).mono ?_; rintro e w' ⟨rfl, rfl⟩)
    go_wp2_with fail
    refine (said_is _ _ _ _ (by omega) (askOffW_in ..)).mono ?_
    rintro e w3 ⟨A, n, c, rfl, rfl, hr, hnew, hu⟩
    go_wp2_with fail
    go_ret2
    exact ⟨⟨A, _, c, rfl, rfl, hr, (fun p h => by simpa using hnew p h)⟩, MAt.up (w := (w.setCell ⟨b, k, none⟩ (.int .u8 (askOffN (S 0 k)))).drew) HM.out hu (by simpa using hb), (Near.set _ _ _ _).up hu⟩
set_option maxRecDepth 100000 in
set_option maxHeartbeats 1600000 in
theorem ask_askOff1 (b k : Nat) (S : Nat → Nat → Int) (G : Nat → Nat → Bool) (w : World) (hm : MAt w b S G) (hb : b < w.heap.size) (hk : k < 256) :
    Calls Tryz.prog 29 #[.pointer (some ⟨b, 0, none⟩), .int .i64 1, .int .u8 (k : Int), .bool false] w (AskPost b 1 k S G (askOffN (S 1 k)) (askOffW (S 1 k)) (askOffK (S 1 k)) w) := by
  obtain ⟨⟨q1, q2⟩, q3, q4⟩ := hm 1 k (by omega) hk
  have hk' : (k : Int) < 256 := by omega
  have hset := hm.setS 1 k (by omega) hk (askOffN (S 1 k))
  simp only [Nat.mul_one] at q1 q2 q3 q4 hset
  have HM := Lib.hid hset
  clear hm hset
  cases hok : askOffK (S 1 k)
  · go_enter Tryz.func29, Tryz.ntmps29
    go_wp2_with fail
    go_region_with (go_at_call 72; refine (askOff_is _ _ _ _ _ hk (by simpa using q1)).mono ?_; rintro e w' ⟨rfl, rfl⟩)
    go_wp2_with fail
    go_ret2
    exact ⟨⟨none, 0, 0, rfl, rfl, reads_two _ _, (fun p h => by cases h)⟩, HM.out, Near.set _ _ _ _⟩
  · go_enter Tryz.func29, Tryz.ntmps29
    go_wp2_with fail
    go_region_with (go_at_call 72; refine (askOff_is _ _ _ _ _ hk (by simpa using q1)).mono ?_; rintro e w' ⟨rfl, rfl⟩)
    go_wp2_with fail
    refine (said_is _ _ _ _ (by omega) (askOffW_in ..)).mono ?_
    rintro e w3 ⟨A, n, c, rfl, rfl, hr, hnew, hu⟩
    go_wp2_with fail
    go_ret2
    exact ⟨⟨A, _, c, rfl, rfl, hr, (fun p h => by simpa using hnew p h)⟩, MAt.up (w := (w.setCell ⟨b, 512 + k, none⟩ (.int .u8 (askOffN (S 1 k)))).drew) HM.out hu (by simpa using hb), (Near.set _ _ _ _).up hu⟩
end Go.Proofs.YtamfjgioajmnpaaGreatDoor
namespace Go.Proofs.YtamfjgioajmnpaaGreatDoor
open Go.RowKit
set_option linter.unusedVariables false
set_option linter.unusedSimpArgs false

def isVerb (v : Int) : Prop := v = 251 ∨ v = 252 ∨ v = 253 ∨ v = 254
instance (v : Int) : Decidable (isVerb v) := inferInstanceAs (Decidable (_ ∨ _))
def hearS (v : Int) (k : Nat) (S : Nat → Nat → Int) (G : Nat → Nat → Bool) : Nat → Nat → Int :=
  if isVerb v then fun i' o' => if i' = sideOf v ∧ o' = k then nextOf v (S (sideOf v) k) (G (sideOf v) k) else S i' o' else S
def hearL (v : Int) (k : Nat) (S : Nat → Nat → Int) (G : Nat → Nat → Bool) : List (Int × Int) :=
  if isVerb v then sayL (sideOf v) (wordOf v (S (sideOf v) k) (G (sideOf v) k)) k else []
def hearE (v : Int) : Int := if isVerb v then 0 else 1
def askN (t : Bool) (s : Int) : Int := if t then askOnN s else askOffN s
def askW (t : Bool) (s : Int) : Int := if t then askOnW s else askOffW s
def askK (t : Bool) (s : Int) : Bool := if t then askOnK s else askOffK s
def isSide (i : Int) : Prop := i = 0 ∨ i = 1
instance (i : Int) : Decidable (isSide i) := inferInstanceAs (Decidable (_ ∨ _))
def askS (i : Int) (k : Nat) (t : Bool) (S : Nat → Nat → Int) : Nat → Nat → Int :=
  if isSide i then fun i' o' => if i' = i.toNat ∧ o' = k then askN t (S i.toNat k) else S i' o' else S
def askL (i : Int) (k : Nat) (t : Bool) (S : Nat → Nat → Int) : List (Int × Int) :=
  if isSide i then (if askK t (S i.toNat k) then sayL i (askW t (S i.toNat k)) k else []) else []
def askE (i : Int) (k : Nat) (t : Bool) (S : Nat → Nat → Int) : Int :=
  if isSide i then (if askK t (S i.toNat k) then 0 else 6) else 1
/-- the words and the error that come back, and what the machine is then -/
def AnsPost (b : Nat) (S' : Nat → Nat → Int) (G : Nat → Nat → Bool) (L : List (Int × Int)) (E : Int) (w : World) (e : Ending) (w' : World) : Prop :=
  ∃ A n c, e = .returned (.tuple #[.slice A n c, .int .i64 E]) ∧ n = L.length ∧ Reads w' w'.heap.size 2 A n (ms L) ∧ (∀ p, A = some p → w.heap.size ≤ p.block) ∧ MAt w' b S' G ∧ Near b w w'
theorem hear_any (b k : Nat) (v : Int) (S : Nat → Nat → Int) (G : Nat → Nat → Bool) (w : World) (hm : MAt w b S G) (hb : b < w.heap.size) (hk : k < 256) :
    Calls Tryz.prog 75 #[.pointer (some ⟨b, 0, none⟩), .int .u8 v, .int .u8 (k : Int)] w (AnsPost b (hearS v k S G) G (hearL v k S G) (hearE v) w) := by
  by_cases hv : isVerb v
  · simp only [hearS, hearL, hearE, if_pos hv]
    rcases hv with rfl | rfl | rfl | rfl
    · exact hear_251 b k S G w hm hb hk
    · exact hear_252 b k S G w hm hb hk
    · exact hear_253 b k S G w hm hb hk
    · exact hear_254 b k S G w hm hb hk
  · simp only [hearS, hearL, hearE, if_neg hv]
    refine (hear_other _ v k w (by simp) (fun e => hv (.inl e)) (fun e => hv (.inr (.inl e))) (fun e => hv (.inr (.inr (.inl e)))) (fun e => hv (.inr (.inr (.inr e))))).mono ?_
    rintro e w' ⟨rfl, rfl⟩
    exact ⟨none, 0, 0, rfl, rfl, reads_two _ _, (fun p h => by cases h), hm, Near.refl _ _⟩
theorem ans_of_ask {b i k : Nat} {S : Nat → Nat → Int} {G : Nat → Nat → Bool} {nx wd : Int} {ok : Bool} {w : World} {e : Ending} {w' : World} (h : AskPost b i k S G nx wd ok w e w') :
    AnsPost b (fun i' o' => if i' = i ∧ o' = k then nx else S i' o') G (if ok then sayL i wd k else []) (if ok then 0 else 6) w e w' := by
  obtain ⟨⟨A, n, c, h1, h2, h3, h4⟩, h5, h6⟩ := h
  exact ⟨A, n, c, h1, h2, h3, h4, h5, h6⟩
theorem ask_any (b k : Nat) (i : Int) (t : Bool) (S : Nat → Nat → Int) (G : Nat → Nat → Bool) (w : World) (hm : MAt w b S G) (hb : b < w.heap.size) (hk : k < 256) :
    Calls Tryz.prog 29 #[.pointer (some ⟨b, 0, none⟩), .int .i64 i, .int .u8 (k : Int), .bool t] w (AnsPost b (askS i k t S) G (askL i k t S) (askE i k t S) w) := by
  by_cases hi : isSide i
  · simp only [askS, askL, askE, if_pos hi]
    rcases hi with rfl | rfl
    · cases t
      · exact (ask_askOff0 b k S G w hm hb hk).mono fun _ _ h => ans_of_ask h
      · exact (ask_askOn0 b k S G w hm hb hk).mono fun _ _ h => ans_of_ask h
    · cases t
      · exact (ask_askOff1 b k S G w hm hb hk).mono fun _ _ h => ans_of_ask h
      · exact (ask_askOn1 b k S G w hm hb hk).mono fun _ _ h => ans_of_ask h
  · simp only [askS, askL, askE, if_neg hi]
    refine (ask_side _ i k t w (by simp) (fun e => hi (.inl e)) (fun e => hi (.inr e))).mono ?_
    rintro e w' ⟨rfl, rfl⟩
    exact ⟨none, 0, 0, rfl, rfl, reads_two _ _, (fun p h => by cases h), hm, Near.refl _ _⟩

/-- the states are the six -/
def okS (S : Nat → Nat → Int) : Prop := ∀ i o, 0 ≤ S i o ∧ S i o ≤ 5
theorem onNext_ok (s : Int) (g : Bool) : 0 ≤ onNext s g ∧ onNext s g ≤ 5 := by
  unfold onNext; repeat' split
  all_goals omega
theorem offNext_ok (s : Int) : 0 ≤ offNext s ∧ offNext s ≤ 5 := by
  unfold offNext; repeat' split
  all_goals omega
theorem okS_set {S : Nat → Nat → Int} {i k : Nat} {x : Int} (h : okS S) (hx : 0 ≤ x ∧ x ≤ 5) : okS (fun i' o' => if i' = i ∧ o' = k then x else S i' o') := by
  intro i' o'
  show 0 ≤ (if i' = i ∧ o' = k then x else S i' o') ∧ (if i' = i ∧ o' = k then x else S i' o') ≤ 5
  split
  · exact hx
  · exact h _ _
theorem askN_ok (t : Bool) (s : Int) (h : 0 ≤ s ∧ s ≤ 5) : 0 ≤ askN t s ∧ askN t s ≤ 5 := by
  unfold askN askOnN askOffN; repeat' split
  all_goals omega
theorem nextOf_ok (v s : Int) (g : Bool) : 0 ≤ nextOf v s g ∧ nextOf v s g ≤ 5 := by
  unfold nextOf; split
  · exact onNext_ok _ _
  · exact offNext_ok _
theorem hearS_ok {v : Int} {k : Nat} {S : Nat → Nat → Int} {G : Nat → Nat → Bool} (h : okS S) : okS (hearS v k S G) := by
  unfold hearS
  split
  · exact okS_set h (nextOf_ok _ _ _)
  · exact h
theorem sayL_len (i wd o : Int) : (sayL i wd o).length ≤ 1 := by unfold sayL; split <;> simp
theorem hearL_len (v : Int) (k : Nat) (S : Nat → Nat → Int) (G : Nat → Nat → Bool) : (hearL v k S G).length ≤ 1 := by
  unfold hearL; split
  · exact sayL_len _ _ _
  · simp
end Go.Proofs.YtamfjgioajmnpaaGreatDoor
namespace Go.Proofs.YtamfjgioajmnpaaGreatDoor
open Go.RowKit
set_option linter.unusedVariables false
set_option linter.unusedSimpArgs false

def agr (l1 l2 : List Int) (i o : Nat) : Bool := if i = 0 then decide ((o : Int) ∈ l1) else decide ((o : Int) ∈ l2)
theorem new_at {A1 A2 : Option Addr} {n1 n2 c1 c2 : Nat} {l1 l2 : List Int} {w : World} (hr1 : Reads w w.heap.size 1 A1 n1 (bs l1)) (hr2 : Reads w w.heap.size 1 A2 n2 (bs l2)) (hn1 : n1 ≤ 65536) (hn2 : n2 ≤ 65536) (hw1 : ∀ x ∈ l1, 0 ≤ x ∧ x ≤ 255) (hw2 : ∀ x ∈ l2, 0 ≤ x ∧ x ≤ 255) :
    Calls Tryz.prog 27 #[.slice A1 n1 c1, .slice A2 n2 c2] w fun e w' => ∃ b, e = .returned (.pointer (some ⟨b, 0, none⟩)) ∧ w.heap.size ≤ b ∧ b < w'.heap.size ∧ MAt w' b (fun _ _ => 0) (agr l1 l2) ∧ Up w w' := by
  refine (new_any A1 A2 n1 n2 c1 c2 l1 l2 w hr1 hr2 hn1 hn2 hw1 hw2).mono ?_
  rintro e w' ⟨rfl, hm, hu⟩
  exact ⟨_, rfl, Nat.le_refl _, cell_lt (hm 0 0 (by omega) (by omega)).1.1, hm, hu⟩
theorem hear_at {b : Nat} {v o : Int} {S : Nat → Nat → Int} {G : Nat → Nat → Bool} {w : World} (k : Nat) (hm : MAt w b S G) (hb : b < w.heap.size) (hk : k < 256) (ho : o = (k : Int)) :
    Calls Tryz.prog 75 #[.pointer (some ⟨b, 0, none⟩), .int .u8 v, .int .u8 o] w (AnsPost b (hearS v k S G) G (hearL v k S G) (hearE v) w) := by
  subst ho; exact hear_any b k v S G w hm hb hk
theorem ask_at {b : Nat} {i o : Int} {t : Bool} {S : Nat → Nat → Int} {G : Nat → Nat → Bool} {w : World} (k : Nat) (hm : MAt w b S G) (hb : b < w.heap.size) (hk : k < 256) (ho : o = (k : Int)) :
    Calls Tryz.prog 29 #[.pointer (some ⟨b, 0, none⟩), .int .i64 i, .int .u8 o, .bool t] w (AnsPost b (askS i k t S) G (askL i k t S) (askE i k t S) w) := by
  subst ho; exact ask_any b k i t S G w hm hb hk
theorem state_at {b : Nat} {i' o s : Int} {S : Nat → Nat → Int} {G : Nat → Nat → Bool} {w : World} (i k : Nat) (hm : MAt w b S G) (hS : okS S) (hi : i < 2) (hk : k < 256) (hi' : i' = (i : Int)) (ho : o = (k : Int)) (hs : S i k = s) :
    Calls Tryz.prog 77 #[.pointer (some ⟨b, 0, none⟩), .int .i64 i', .int .u8 o] w fun e w' => e = .returned (.int .i64 s) ∧ w = w' := by
  subst ho hi' hs; exact state_is b k i S G w hm hk hi (by have := hS i k; omega)
theorem on_at {b : Nat} {i' o : Int} {t : Bool} {S : Nat → Nat → Int} {G : Nat → Nat → Bool} {w : World} (i k : Nat) (hm : MAt w b S G) (hS : okS S) (hi : i < 2) (hk : k < 256) (hi' : i' = (i : Int)) (ho : o = (k : Int)) (ht : (S i k == 1) = t) :
    Calls Tryz.prog 34 #[.pointer (some ⟨b, 0, none⟩), .int .i64 i', .int .u8 o] w fun e w' => e = .returned (.bool t) ∧ w = w' :=
  on_of (state_at i k hm hS hi hk hi' ho rfl) ht
theorem MAt.drew {w : World} {b : Nat} {S : Nat → Nat → Int} {G : Nat → Nat → Bool} (h : MAt w b S G) : MAt w.drew b S G := h
theorem okS_zero : okS (fun _ _ => 0) := fun _ _ => by simp
/-- one word, as it lies -/
theorem word_one {w : World} {B : Nat} {A : Option Addr} {v o : Int} (h : Reads w B 2 A 1 (ms [(v, o)])) : ∃ b off, A = some ⟨b, off, none⟩ ∧ b < B ∧ w.cell? ⟨b, off, none⟩ = some (.int .u8 v) ∧ w.cell? ⟨b, off + 1, none⟩ = some (.int .u8 o) := by
  obtain ⟨b, off, e, hb, hc⟩ := h.2 (by omega)
  exact ⟨b, off, e, hb, hc 0 _ rfl, hc 1 _ rfl⟩
theorem reads_lit1 (W : World) (cs : Array Value) (t : TypeId) (l : List Int) (n : Nat) (h : cs.toList = bs l) (hn : cs.size = n) (g : Nat) (hg : g = W.heap.size) :
    Reads (W.alloc (.cells cs t)) (W.alloc (.cells cs t)).heap.size 1 (some ⟨g, 0, none⟩) n (bs l) := by
  have := (reads_at W g 1 n cs t (by omega) hg).more (show W.heap.size + 1 ≤ (W.alloc (.cells cs t)).heap.size by simp)
  rw [h] at this
  exact this
end Go.Proofs.YtamfjgioajmnpaaGreatDoor
namespace Go.Proofs.YtamfjgioajmnpaaGreatDoor
open Go.RowKit
set_option linter.unusedVariables false
set_option linter.unusedSimpArgs false

/-- a row of a list of structs, as it lies -/
theorem row_at {α : Type} {k : Nat} {enc : α → List Value} (hk : ∀ x, (enc x).length = k) {w : World} {B b off n : Nat} {L : List α} (h : Reads w B k (some ⟨b, off, none⟩) n (L.flatMap enc)) {j : Nat} {x : α} (hj : L[j]? = some x) (h0 : 0 < k) :
    ∀ i u, (enc x)[i]? = some u → w.cell? ⟨b, off + j * k + i, none⟩ = some u := by
  intro i u hu
  have hjl := (List.getElem?_eq_some_iff.1 hj).1
  have hL : L.length = n := by have := h.1; rw [flatMap_len hk] at this; exact Nat.eq_of_mul_eq_mul_right h0 this
  obtain ⟨b', off', e, hb, hc⟩ := h.2 (by omega)
  injection e with e
  injection e with e1 e2 _
  subst e1; subst e2
  rw [Nat.add_assoc]
  refine hc _ u ?_
  have hi : i < k := by have := (List.getElem?_eq_some_iff.1 hu).1; rw [hk] at this; exact this
  clear hc h hL
  induction L generalizing j with
  | nil => simp at hj
  | cons y L ih =>
    rw [List.flatMap_cons]
    cases j with
    | zero =>
      simp at hj
      subst hj
      rw [List.getElem?_append_left (by rw [hk]; omega)]
      simpa using hu
    | succ j =>
      rw [List.getElem?_append_right (by rw [hk, Nat.succ_mul]; omega), hk]
      rw [show (j + 1) * k + i - k = j * k + i by rw [Nat.succ_mul]; omega]
      exact ih (by simpa using hj) (by simp at hjl; omega)
theorem cut_own {A : Option Addr} {n c : Nat} {l : List Int} {w : World} (hr : Reads w w.heap.size 1 A n (bs l)) (hn : n ≤ c) (hc : c ≤ maxLen) (m : Int) (hm : 0 ≤ m) (hm' : m ≤ 65536) :
    Calls Tryz.prog 28 #[.slice A n c, .int .i64 m] w fun e w' => ∃ A' n' c', e = .returned (.slice A' n' c') ∧ (n' : Int) ≤ m ∧ Reads w' w'.heap.size 1 A' n' (bs (l.take m.toNat)) ∧ (∀ p, A' = some p → w.heap.size ≤ p.block) ∧ n' ≤ c' ∧ c' ≤ maxLen ∧ Up w w' := by
  refine (cut_any A n c l m w hr hn hc hm hm').mono ?_
  rintro e w' ⟨A', n', c', rfl, h1, h2, h3, h4, h5⟩
  refine ⟨A', n', c', rfl, ?_, Reads.of_own h2, ?_, h3, h4, h5⟩
  · have : (n' : Int) ≤ (m.toNat : Int) := by rw [h1]; exact_mod_cast Nat.min_le_right _ _
    omega
  · rintro p rfl
    have := own_bd h2 p.block
    rcases h2.2 with ⟨e1, _⟩ | ⟨g, cap, cur, e1, h6, _⟩
    · cases e1
    · injection e1 with e1 _ _
      injection e1 with e1
      subst e1
      exact h6
end Go.Proofs.YtamfjgioajmnpaaGreatDoor
namespace Go.Proofs.YtamfjgioajmnpaaGreatDoor
open Go.RowKit
set_option linter.unusedVariables false
set_option linter.unusedSimpArgs false

theorem say_is (v o : Int) (w : World) : Calls Tryz.prog 53 #[.int .u8 v, .int .u8 o] w fun e w' => ∃ A n c, e = .returned (.slice A n c) ∧ RSl [255, v, o] (.slice A n c) w' ∧ Up w w' := by
  go_enter Tryz.func53, Tryz.ntmps53
  go_wp2
  go_ret
  exact ⟨_, _, _, rfl, rsl_lit _ _ _ _ _ _ rfl rfl (by simp [maxLen]) rfl, by (repeat (first | with_reducible exact Up.refl _ | with_reducible refine Up.alloc ?_ _ | with_reducible refine Up.drew ?_ | with_reducible refine Up.drewN ?_ _ | with_reducible refine Up.setCell ?_ (by (try simp) <;> omega) _ | with_reducible assumption | with_reducible refine Up.trans ?_ (by assumption)))⟩
theorem msg_is (v o : Int) (w : World) : Calls Tryz.prog 30 #[.agg #[.int .u8 v, .int .u8 o]] w fun e w' => ∃ A n c, e = .returned (.slice A n c) ∧ RSl [255, v, o] (.slice A n c) w' ∧ Up w w' := by
  go_enter Tryz.func30, Tryz.ntmps30
  go_wp2_with fail
  refine (say_is _ _ _).mono ?_
  rintro e w' ⟨A, n, c, rfl, hR, hu⟩
  have HR := Lib.hid hR
  clear hR
  go_wp2_with fail
  go_ret
  exact ⟨_, _, _, rfl, HR.out, by (repeat (first | with_reducible exact Up.refl _ | with_reducible refine Up.alloc ?_ _ | with_reducible refine Up.drew ?_ | with_reducible refine Up.drewN ?_ _ | with_reducible refine Up.setCell ?_ (by (try simp) <;> omega) _ | with_reducible assumption | with_reducible refine Up.trans ?_ (by assumption)))⟩
theorem same_at {A A' : Option Addr} {n n' c c' B B' : Nat} {l l' : List Int} {w : World} {t : Bool} (hr : Reads w B 1 A n (bs l)) (hr' : Reads w B' 1 A' n' (bs l')) (hl : ∀ x ∈ l, 0 ≤ x ∧ x ≤ 255) (hl' : ∀ x ∈ l', 0 ≤ x ∧ x ≤ 255) (ht : decide (l = l') = t) :
    Calls Tryz.prog 44 #[.slice A n c, .slice A' n' c'] w fun e w' => e = .returned (.bool t) ∧ w = w' := by
  subst ht; exact same_any A A' n n' c c' B B' l l' w hr hr' hl hl'
theorem sayL_form (i wd o : Int) : sayL i wd o = [] ∨ ∃ v, sayL i wd o = [(v, o)] ∧ 0 ≤ v ∧ v ≤ 255 := by
  unfold sayL; split
  · exact .inl rfl
  · refine .inr ⟨_, rfl, ?_⟩
    unfold verbOf; repeat' split
    all_goals omega
theorem hearL_form (v : Int) (k : Nat) (S : Nat → Nat → Int) (G : Nat → Nat → Bool) : hearL v k S G = [] ∨ ∃ x, hearL v k S G = [(x, (k : Int))] ∧ 0 ≤ x ∧ x ≤ 255 := by
  unfold hearL; split
  · exact sayL_form _ _ _
  · exact .inl rfl
theorem askL_form (i : Int) (k : Nat) (t : Bool) (S : Nat → Nat → Int) : askL i k t S = [] ∨ ∃ x, askL i k t S = [(x, (k : Int))] ∧ 0 ≤ x ∧ x ≤ 255 := by
  unfold askL; repeat' split
  · exact sayL_form _ _ _
  · exact .inl rfl
  · exact .inl rfl

theorem MAt.kept {w w' : World} {b : Nat} {S : Nat → Nat → Int} {G : Nat → Nat → Bool} {E : Nat → Prop} (h : MAt w b S G) (hk : Keep E w w') (hb : b < w.heap.size) (he : ¬ E b) : MAt w' b S G := by
  intro i o hi ho
  obtain ⟨⟨h1, h2⟩, h3, h4⟩ := h i o hi ho
  have hc := hk.at_ b hb he
  exact ⟨⟨(hc.1 _).trans h1, (hc.2 _).trans h2⟩, (hc.1 _).trans h3, (hc.2 _).trans h4⟩
end Go.Proofs.YtamfjgioajmnpaaGreatDoor
namespace Go.Proofs.YtamfjgioajmnpaaGreatDoor
open Go.RowKit
set_option linter.unusedVariables false
set_option linter.unusedSimpArgs false

/-- the blocks of F that are part i's -/
def Cp (F : Nat → Prop) (own : Nat → Nat) (i : Nat) : Nat → Prop := fun k => F k ∧ own k = i
/-- new blocks are part i's -/
def recol (own : Nat → Nat) (w : World) (i : Nat) : Nat → Nat := fun k => if k < w.heap.size then own k else i
section
variable {F : Nat → Prop} {own : Nat → Nat} {w w' : World} {i j : Nat}
theorem cp_old (hF : ∀ k, F k → k < w.heap.size) : ∀ k, Cp F own j k → Cp (Gr F w w') (recol own w i) j k := fun k h => ⟨.inl h.1, by unfold recol; rw [if_pos (hF k h.1)]; exact h.2⟩
theorem cp_new (hF : ∀ k, F k → k < w.heap.size) : ∀ k, Gr (Cp F own i) w w' k → Cp (Gr F w w') (recol own w i) i k := fun k h => by
  rcases h with h | h
  · exact cp_old hF k h
  · exact ⟨.inr h, by unfold recol; rw [if_neg (by omega)]⟩
theorem cp_lt (hF : ∀ k, F k → k < w.heap.size) (hz : w.heap.size ≤ w'.heap.size) {o : Nat → Nat} : ∀ k, Cp (Gr F w w') o j k → k < w'.heap.size := fun k h => Gr.lt hF hz k h.1
theorem cp_ne (h : i ≠ j) : ∀ k, Cp F own j k → ¬ Cp F own i k := fun k h1 h2 => h (h2.2.symm.trans h1.2)
theorem cp_own (hF : ∀ k, F k → k < w.heap.size) {b : Nat} (hb : F b) : recol own w i b = own b := by unfold recol; rw [if_pos (hF b hb)]
end
structure LkT where
  rd : RdT
  S : Nat → Nat → Int
  G : Nat → Nat → Bool
  en : EnT
  mkr : MkT
  out : List Int
  seq : Int
  mode : Int
theorem ne_lk8 : 187 ≠ 5 := by decide
def lkVals (L : LkT) (br bo be bm : Nat) (Ao : Option Addr) (co : Nat) : List Value :=
  [.pointer (some ⟨br, 0, none⟩), .pointer (some ⟨bo, 0, none⟩), .pointer (some ⟨be, 0, none⟩), .pointer (some ⟨bm, 0, none⟩), .slice Ao L.out.length co, .int .u16 L.seq, .int .i64 L.mode]
structure LkI (w : World) (b : Nat) (F : Nat → Prop) (own : Nat → Nat) (L : LkT) (br bo be bm : Nat) (Ao : Option Addr) (co : Nat) : Prop where
  st : St w 187 b (lkVals L br bo be bm Ao co)
  fb : Cp F own 0 b
  rd : RdAt w br (Cp F own 1) L.rd
  ma : MAt w bo L.S L.G
  fo : Cp F own 2 bo
  ok : okS L.S
  en : EnAt w be (Cp F own 3) L.en
  mkr : MkAt w bm (Cp F own 4) L.mkr
  out : Row 5 1 w (Cp F own 0) Ao L.out.length co (bs L.out)
  bo : BL L.out
  lt : ∀ k, F k → k < w.heap.size
/-- a link lies there, its blocks in F -/
def LkAt (w : World) (b : Nat) (F : Nat → Prop) (L : LkT) : Prop := ∃ own br bo be bm Ao co, LkI w b F own L br bo be bm Ao co
/-- what a step of a link leaves -/
def LkPost (w : World) (b : Nat) (F : Nat → Prop) (L : LkT) (e : Ending) (w' : World) : Prop := e = .returned (.tuple #[]) ∧ LkAt w' b (Gr F w w') L ∧ Keep F w w'
section
variable {w w' : World} {b br bo be bm co : Nat} {F G : Nat → Prop} {own : Nat → Nat} {L : LkT} {Ao : Option Addr}
theorem LkI.zo (h : LkI w b F own L br bo be bm Ao co) : bo < w.heap.size := h.lt _ h.fo.1
theorem LkAt.lt (h : LkAt w b F L) : ∀ k, F k → k < w.heap.size := by
  obtain ⟨own, br, bo, be, bm, Ao, co, h⟩ := h
  exact h.lt
theorem LkAt.fb (h : LkAt w b F L) : F b := by
  obtain ⟨own, br, bo, be, bm, Ao, co, h⟩ := h
  exact h.fb.1
theorem LkI.keep {E : Nat → Prop} (h : LkI w b F own L br bo be bm Ao co) (hk : Keep E w w') (he : ∀ k, F k → ¬ E k) : LkI w' b F own L br bo be bm Ao co :=
  ⟨h.st.keep hk (he _ h.fb.1), h.fb, h.rd.keep hk (fun k hk => he k hk.1), h.ma.kept hk h.zo (he _ h.fo.1), h.fo, h.ok, h.en.keep hk (fun k hk => he k hk.1), h.mkr.keep hk (fun k hk => he k hk.1), h.out.keep hk (fun g hg => he g (h.out.in_ g hg).1), h.bo, fun k hkk => by have := h.lt k hkk; have := hk.size; omega⟩
theorem LkAt.keep {E : Nat → Prop} (h : LkAt w b F L) (hk : Keep E w w') (he : ∀ k, F k → ¬ E k) : LkAt w' b F L := by
  obtain ⟨own, br, bo, be, bm, Ao, co, h⟩ := h
  exact ⟨own, br, bo, be, bm, Ao, co, h.keep hk he⟩
/-- in a wider footprint the blocks besides are the link's own (part 0) -/
theorem LkI.wide (h : LkI w b F own L br bo be bm Ao co) (hF : ∀ k, F k → G k) (hG : ∀ k, G k → k < w.heap.size) : LkI w b G own L br bo be bm Ao co :=
  ⟨h.st, ⟨hF _ h.fb.1, h.fb.2⟩, h.rd.wide (fun k hk => ⟨hF k hk.1, hk.2⟩) (fun k hk => hG k hk.1), h.ma, ⟨hF _ h.fo.1, h.fo.2⟩, h.ok, h.en.wide (fun k hk => ⟨hF k hk.1, hk.2⟩) (fun k hk => hG k hk.1), h.mkr.wide (fun k hk => ⟨hF k hk.1, hk.2⟩) (fun k hk => hG k hk.1), h.out.mono (fun g hg => ⟨hF g hg.1, hg.2⟩), h.bo, hG⟩
theorem LkAt.wide (h : LkAt w b F L) (hF : ∀ k, F k → G k) (hG : ∀ k, G k → k < w.heap.size) : LkAt w b G L := by
  obtain ⟨own, br, bo, be, bm, Ao, co, h⟩ := h
  exact ⟨own, br, bo, be, bm, Ao, co, h.wide hF hG⟩
theorem LkPost.then {e : Ending} {w1 w2 : World} {L' : LkT} (hk1 : Keep F w w1) (h : LkPost w1 b (Gr F w w1) L' e w2) (hF : ∀ k, F k → k < w.heap.size) : LkPost w b F L' e w2 := by
  obtain ⟨he, hr, hk⟩ := h
  exact ⟨he, hr.wide (Gr.trans hk1.size hk.size) (Gr.lt hF (by have := hk1.size; have := hk.size; omega)), hk1.gr hk⟩
/-- the parts that a step upon part i leaves -/
theorem LkI.rd_move {i : Nat} (h : LkI w b F own L br bo be bm Ao co) (hk : Keep (Cp F own i) w w') (hi : i ≠ 1) : RdAt w' br (Cp (Gr F w w') (recol own w i) 1) L.rd :=
  (h.rd.keep hk (cp_ne hi)).wide (cp_old h.lt) (cp_lt h.lt hk.size)
theorem LkI.en_move {i : Nat} (h : LkI w b F own L br bo be bm Ao co) (hk : Keep (Cp F own i) w w') (hi : i ≠ 3) : EnAt w' be (Cp (Gr F w w') (recol own w i) 3) L.en :=
  (h.en.keep hk (cp_ne hi)).wide (cp_old h.lt) (cp_lt h.lt hk.size)
theorem LkI.mk_move {i : Nat} (h : LkI w b F own L br bo be bm Ao co) (hk : Keep (Cp F own i) w w') (hi : i ≠ 4) : MkAt w' bm (Cp (Gr F w w') (recol own w i) 4) L.mkr :=
  (h.mkr.keep hk (cp_ne hi)).wide (cp_old h.lt) (cp_lt h.lt hk.size)
theorem LkI.ma_move {i : Nat} (h : LkI w b F own L br bo be bm Ao co) (hk : Keep (Cp F own i) w w') (hi : i ≠ 2) : MAt w' bo L.S L.G :=
  h.ma.kept hk h.zo (fun e => hi (e.2.symm.trans h.fo.2))
theorem LkI.st_move {i : Nat} (h : LkI w b F own L br bo be bm Ao co) (hk : Keep (Cp F own i) w w') (hi : i ≠ 0) : St w' 187 b (lkVals L br bo be bm Ao co) :=
  h.st.keep hk (fun e => hi (e.2.symm.trans h.fb.2))
theorem LkI.out_move {i : Nat} (h : LkI w b F own L br bo be bm Ao co) (hk : Keep (Cp F own i) w w') (hi : i ≠ 0) : Row 5 1 w' (Cp (Gr F w w') (recol own w i) 0) Ao L.out.length co (bs L.out) :=
  (h.out.keep hk (fun g hg => cp_ne hi g (h.out.in_ g hg))).mono (cp_old h.lt)
theorem LkI.f_move {i j c : Nat} (h : LkI w b F own L br bo be bm Ao co) (hc : Cp F own j c) : Cp (Gr F w w') (recol own w i) j c := cp_old h.lt c hc
/-- the machine's step -/
theorem LkI.put_ma (h : LkI w b F own L br bo be bm Ao co) (hk : Keep (fun k => k = bo) w w') {S' : Nat → Nat → Int} (hm : MAt w' bo S' L.G) (ho : okS S') : LkI w' b (Gr F w w') (recol own w 2) { L with S := S' } br bo be bm Ao co ∧ Keep F w w' := by
  have hk2 : Keep (Cp F own 2) w w' := hk.mono (fun k e => by rw [e]; exact h.fo)
  exact ⟨⟨h.st_move hk2 (by decide), h.f_move h.fb, h.rd_move hk2 (by decide), hm, h.f_move h.fo, ho, h.en_move hk2 (by decide), h.mk_move hk2 (by decide), h.out_move hk2 (by decide), h.bo, Gr.lt h.lt hk.size⟩, hk2.mono (fun k hk => hk.1)⟩
/-- the end's step -/
theorem LkI.put_en (h : LkI w b F own L br bo be bm Ao co) (hk : Keep (Cp F own 3) w w') {E' : EnT} (hm : EnAt w' be (Gr (Cp F own 3) w w') E') : LkI w' b (Gr F w w') (recol own w 3) { L with en := E' } br bo be bm Ao co ∧ Keep F w w' :=
  ⟨⟨h.st_move hk (by decide), h.f_move h.fb, h.rd_move hk (by decide), h.ma_move hk (by decide), h.f_move h.fo, h.ok, hm.wide (cp_new h.lt) (cp_lt h.lt hk.size), h.mk_move hk (by decide), h.out_move hk (by decide), h.bo, Gr.lt h.lt hk.size⟩, hk.mono (fun k hk => hk.1)⟩
/-- the maker's step -/
theorem LkI.put_mk (h : LkI w b F own L br bo be bm Ao co) (hk : Keep (Cp F own 4) w w') {M' : MkT} (hm : MkAt w' bm (Gr (Cp F own 4) w w') M') : LkI w' b (Gr F w w') (recol own w 4) { L with mkr := M' } br bo be bm Ao co ∧ Keep F w w' :=
  ⟨⟨h.st_move hk (by decide), h.f_move h.fb, h.rd_move hk (by decide), h.ma_move hk (by decide), h.f_move h.fo, h.ok, h.en_move hk (by decide), hm.wide (cp_new h.lt) (cp_lt h.lt hk.size), h.out_move hk (by decide), h.bo, Gr.lt h.lt hk.size⟩, hk.mono (fun k hk => hk.1)⟩
/-- the reader's step -/
theorem LkI.put_rd {F1 : Nat → Prop} (h : LkI w b F own L br bo be bm Ao co) (hk : Keep (Cp F own 1) w w') {R' : RdT} (hm : RdAt w' br F1 R') (h1 : ∀ k, F1 k → Gr (Cp F own 1) w w' k) : LkI w' b (Gr F w w') (recol own w 1) { L with rd := R' } br bo be bm Ao co ∧ Keep F w w' :=
  ⟨⟨h.st_move hk (by decide), h.f_move h.fb, hm.wide (fun k hk => cp_new h.lt k (h1 k hk)) (cp_lt h.lt hk.size), h.ma_move hk (by decide), h.f_move h.fo, h.ok, h.en_move hk (by decide), h.mk_move hk (by decide), h.out_move hk (by decide), h.bo, Gr.lt h.lt hk.size⟩, hk.mono (fun k hk => hk.1)⟩
/-- a step upon the link's own cells and what waits -/
theorem LkI.put_own {Ao' : Option Addr} {co' : Nat} {L' : LkT} (h : LkI w b F own L br bo be bm Ao co) (hk : Keep (Cp F own 0) w w') (hs : St w' 187 b (lkVals L' br bo be bm Ao' co')) (hr : Row 5 1 w' (Gr (Cp F own 0) w w') Ao' L'.out.length co' (bs L'.out)) (hb : BL L'.out)
    (e1 : L'.rd = L.rd) (e2 : L'.S = L.S) (e3 : L'.G = L.G) (e4 : L'.en = L.en) (e5 : L'.mkr = L.mkr) : LkI w' b (Gr F w w') (recol own w 0) L' br bo be bm Ao' co' ∧ Keep F w w' :=
  ⟨⟨hs, h.f_move h.fb, by rw [e1]; exact h.rd_move hk (by decide), by rw [e2, e3]; exact h.ma_move hk (by decide), h.f_move h.fo, by rw [e2]; exact h.ok, by rw [e4]; exact h.en_move hk (by decide), by rw [e5]; exact h.mk_move hk (by decide), hr.mono (cp_new h.lt), hb, Gr.lt h.lt hk.size⟩, hk.mono (fun k hk => hk.1)⟩
end
end Go.Proofs.YtamfjgioajmnpaaGreatDoor
