/-
  The first places of unprotected fields, rising: the next one of each. No condition.
  cursor's Tabs as an iterator: the places where a tab may come to, rising. No condition.
  The law's tabs: the first ones, at most so many. No condition.
  Boxes of a function that hold still beside an iterator's own blocks. No condition.
  cursor's Index: which of the tabs the cursor is. No condition.
-/
import Derived.Test.YtjokcfenncogkaaPl13b
import Derived.Test.YtjokcfenncogkaaFld1
import Derived.Test.YtjokcfenncogkaaCollN
import Derived.Test.YtjokcfenncogkaaRf
import Derived.Stop.RegionWithIn
import Derived.Shelf.Abstract
namespace Go.Proofs.Ytjokcfenncogkaa
open Go.RowKit
set_option linter.unusedVariables false
set_option linter.unusedSimpArgs false

theorem emod_small {M x : Int} (h1 : -M ≤ x) (h2 : x < M) : x % M = if x < 0 then x + M else x := by
  split
  · rw [← Int.add_emod_right, Int.emod_eq_of_lt (by omega) (by omega)]
  · exact Int.emod_eq_of_lt (by omega) h2
/-- the places of X where a tab may come to, rising -/
def Spc.tabs (X : Spc) : List Int := those (fun k => X.fst (k : Int)) X.L.length
theorem mem_tabs {X : Spc} (ok : X.Ok) {x : Int} : x ∈ X.tabs ↔ 0 ≤ x ∧ x < X.r * X.c ∧ X.fst x = true := by
  have hl := ok.len
  unfold Spc.tabs
  rw [mem_those]
  constructor
  · rintro ⟨k, rfl, h1, h2⟩; exact ⟨by omega, by omega, h2⟩
  · rintro ⟨h0, h1, h2⟩
    refine ⟨x.toNat, by omega, by omega, ?_⟩
    rw [show ((x.toNat : Nat) : Int) = x by omega]; exact h2
theorem those_sorted (f : Nat → Bool) (n : Nat) : (those f n).Pairwise (· < ·) := by
  induction n with
  | zero => simp [those]
  | succ n ih =>
    rw [those_succ]
    split
    · rw [List.pairwise_append]
      refine ⟨ih, by simp, fun a ha b hb => ?_⟩
      obtain ⟨k, rfl, h1, _⟩ := mem_those.1 ha
      simp at hb
      omega
    · exact ih
theorem sorted_at {T : List Int} (h : T.Pairwise (· < ·)) {i j : Nat} (hij : i < j) (hj : j < T.length) : T.getD i 0 < T.getD j 0 := by
  have := List.pairwise_iff_getElem.1 h i j (by omega) hj hij
  rw [List.getD, List.getD, List.getElem?_eq_getElem (by omega), List.getElem?_eq_getElem hj]
  exact this
theorem mem_at {T : List Int} {x : Int} (h : x ∈ T) : ∃ t, t < T.length ∧ T.getD t 0 = x := by
  obtain ⟨t, ht, rfl⟩ := List.getElem_of_mem h
  exact ⟨t, ht, by rw [List.getD, List.getElem?_eq_getElem ht]; rfl⟩
theorem at_mem {T : List Int} {i : Nat} (h : i < T.length) : T.getD i 0 ∈ T := by
  rw [List.getD, List.getElem?_eq_getElem h]; exact List.getElem_mem h
theorem find_to {X : Spc} (ok : X.Ok) {a b s : Int} (hs : s = 1 ∨ s = -1) (b0 : 0 ≤ b) (b1 : b < X.r * X.c) (hf : X.fst b = true)
    (hc : ∀ k, 0 ≤ k → k < X.r * X.c → X.fst k = true → (s * (b - a) - 1) % (X.r * X.c) ≤ (s * (k - a) - 1) % (X.r * X.c)) : X.find a s = b := by
  have hp := Spc.pos ok
  have hl := ok.len
  obtain ⟨D, hD⟩ : ∃ D : Nat, (s * (b - a) - 1) % (X.r * X.c) = (D : Int) := ⟨((s * (b - a) - 1) % (X.r * X.c)).toNat, by have := Int.emod_nonneg (s * (b - a) - 1) (show X.r * X.c ≠ 0 by omega); omega⟩
  have hDM : (D : Int) < X.r * X.c := by rw [← hD]; exact Int.emod_lt_of_pos _ hp
  have hb : (a + s * ((D : Int) + 1)) % (X.r * X.c) = b := by
    rw [← hD]
    rcases hs with rfl | rfl
    · rw [Int.one_mul, Int.one_mul, ← Int.add_assoc, Int.add_right_comm, Int.add_emod_emod, show a + 1 + (b - a - 1) = b by omega, Int.emod_eq_of_lt b0 b1]
    · rw [show a + -1 * ((-1 * (b - a) - 1) % (X.r * X.c) + 1) = a - 1 - (-1 * (b - a) - 1) % (X.r * X.c) by omega, Int.sub_emod_emod, show a - 1 - (-1 * (b - a) - 1) = b by omega, Int.emod_eq_of_lt b0 b1]
  have hfar : X.far a s = some D := by
    refine least_some.2 ⟨by omega, ?_, fun j hj => ?_⟩
    · rw [← hf]; exact fst_congr (by rw [hb, Int.emod_eq_of_lt b0 b1])
    · cases hh : X.fst (a + s * ((j : Int) + 1))
      · rfl
      · have h1 := hc ((a + s * ((j : Int) + 1)) % (X.r * X.c)) (Int.emod_nonneg _ (by omega)) (Int.emod_lt_of_pos _ hp) (by rw [← hh]; exact fst_congr (by simp))
        rw [hD] at h1
        have h2 : (s * ((a + s * ((j : Int) + 1)) % (X.r * X.c) - a) - 1) % (X.r * X.c) = (j : Int) := by
          rcases hs with rfl | rfl
          · rw [Int.one_mul, Int.one_mul, show (a + ((j : Int) + 1)) % (X.r * X.c) - a - 1 = (a + ((j : Int) + 1)) % (X.r * X.c) - (a + 1) by omega, Int.emod_sub_emod, show a + ((j : Int) + 1) - (a + 1) = (j : Int) by omega, Int.emod_eq_of_lt (by omega) (by omega)]
          · rw [show -1 * ((a + -1 * ((j : Int) + 1)) % (X.r * X.c) - a) - 1 = a - 1 - (a + -1 * ((j : Int) + 1)) % (X.r * X.c) by omega, Int.sub_emod_emod, show a - 1 - (a + -1 * ((j : Int) + 1)) = (j : Int) by omega, Int.emod_eq_of_lt (by omega) (by omega)]
        omega
  unfold Spc.find
  rw [hfar]
  exact hb
theorem find_empty {X : Spc} (ok : X.Ok) (h : X.tabs = []) (n s : Int) : X.find n s = -1 := by
  have hp := Spc.pos ok
  have e : X.far n s = none := least_none.2 fun j hj => by
    cases hh : X.fst (n + s * ((j : Int) + 1))
    · rfl
    · have : (n + s * ((j : Int) + 1)) % (X.r * X.c) ∈ X.tabs := (mem_tabs ok).2 ⟨Int.emod_nonneg _ (by omega), Int.emod_lt_of_pos _ hp, by rw [← hh]; exact fst_congr (by simp)⟩
      rw [h] at this
      simp at this
  unfold Spc.find
  rw [e]
/-- the facts of the places, with T for them -/
theorem tabs_facts {X : Spc} (ok : X.Ok) {i : Nat} (hi : i < X.tabs.length) : 0 ≤ X.tabs.getD i 0 ∧ X.tabs.getD i 0 < X.r * X.c ∧ X.fst (X.tabs.getD i 0) = true := (mem_tabs ok).1 (at_mem hi)
theorem sorted_le {T : List Int} (h : T.Pairwise (· < ·)) {i j : Nat} (hij : i ≤ j) (hj : j < T.length) : T.getD i 0 ≤ T.getD j 0 := by
  rcases Nat.eq_or_lt_of_le hij with rfl | h'
  · exact Int.le_refl _
  · exact Int.le_of_lt (sorted_at h h' hj)
/-- nothing of a rising list lies between one of it and the next, round -/
theorem gap {T : List Int} (h : T.Pairwise (· < ·)) {i : Nat} (hi : i < T.length) {k : Int} (hk : k ∈ T) :
    (T.getD i 0 < T.getD ((i + 1) % T.length) 0 ∧ (k ≤ T.getD i 0 ∨ T.getD ((i + 1) % T.length) 0 ≤ k)) ∨ (T.getD ((i + 1) % T.length) 0 ≤ T.getD i 0 ∧ T.getD ((i + 1) % T.length) 0 ≤ k ∧ k ≤ T.getD i 0) := by
  obtain ⟨t, ht, rfl⟩ := mem_at hk
  rcases Nat.lt_or_ge (i + 1) T.length with hl | hl
  · left
    rw [Nat.mod_eq_of_lt hl]
    refine ⟨sorted_at h (by omega) hl, ?_⟩
    rcases Nat.lt_or_ge t (i + 1) with h1 | h1
    · exact .inl (sorted_le h (by omega) hi)
    · exact .inr (sorted_le h h1 ht)
  · right
    rw [show i + 1 = T.length by omega, Nat.mod_self]
    exact ⟨sorted_le h (by omega) hi, sorted_le h (by omega) ht, sorted_le h (by omega) hi⟩
theorem cyc {M a b k : Int} (a0 : 0 ≤ a) (a1 : a < M) (b0 : 0 ≤ b) (b1 : b < M) (k0 : 0 ≤ k) (k1 : k < M) (h : (a < b ∧ (k ≤ a ∨ b ≤ k)) ∨ (b ≤ a ∧ b ≤ k ∧ k ≤ a)) :
    (1 * (b - a) - 1) % M ≤ (1 * (k - a) - 1) % M ∧ (-1 * (a - b) - 1) % M ≤ (-1 * (k - b) - 1) % M := by
  rw [emod_small (by omega) (by omega), emod_small (by omega) (by omega), emod_small (by omega) (by omega), emod_small (by omega) (by omega)]
  constructor
  · split <;> split <;> omega
  · split <;> split <;> omega
theorem find_first {X : Spc} (ok : X.Ok) (h : 0 < X.tabs.length) : X.find (-1) 1 = X.tabs.getD 0 0 := by
  obtain ⟨h0, h1, h2⟩ := tabs_facts ok h
  refine find_to ok (.inl rfl) h0 h1 h2 fun k k0 k1 k2 => ?_
  obtain ⟨t, ht, e⟩ := mem_at ((mem_tabs ok).2 ⟨k0, k1, k2⟩)
  have hs : X.tabs.getD 0 0 ≤ k := by rw [← e]; exact sorted_le (those_sorted _ _) (by omega) ht
  rw [emod_small (by omega) (by omega), emod_small (by omega) (by omega)]
  split <;> split <;> omega
theorem find_next {X : Spc} (ok : X.Ok) {i : Nat} (hi : i < X.tabs.length) : X.find (X.tabs.getD i 0) 1 = X.tabs.getD ((i + 1) % X.tabs.length) 0 := by
  have hlt : (i + 1) % X.tabs.length < X.tabs.length := Nat.mod_lt _ (by omega)
  obtain ⟨h0, h1, h2⟩ := tabs_facts ok hlt
  obtain ⟨a0, a1, a2⟩ := tabs_facts ok hi
  exact find_to ok (.inl rfl) h0 h1 h2 fun k k0 k1 k2 => (cyc a0 a1 h0 h1 k0 k1 (gap (those_sorted _ _) hi ((mem_tabs ok).2 ⟨k0, k1, k2⟩))).1
theorem find_prev {X : Spc} (ok : X.Ok) {i : Nat} (hi : i < X.tabs.length) : X.find (X.tabs.getD ((i + 1) % X.tabs.length) 0) (-1) = X.tabs.getD i 0 := by
  have hlt : (i + 1) % X.tabs.length < X.tabs.length := Nat.mod_lt _ (by omega)
  obtain ⟨h0, h1, h2⟩ := tabs_facts ok hlt
  obtain ⟨a0, a1, a2⟩ := tabs_facts ok hi
  exact find_to ok (.inr rfl) a0 a1 a2 fun k k0 k1 k2 => (cyc a0 a1 h0 h1 k0 k1 (gap (those_sorted _ _) hi ((mem_tabs ok).2 ⟨k0, k1, k2⟩))).2
theorem tabs_len {X : Spc} : X.tabs.length ≤ X.L.length := those_len _ _
theorem tabs_ne {X : Spc} {i : Nat} (h0 : 0 < i) (hi : i < X.tabs.length) : X.tabs.getD i 0 ≠ X.tabs.getD 0 0 := by
  have h : X.tabs.Pairwise (· < ·) := those_sorted _ _
  have := sorted_at h h0 hi
  omega
end Go.Proofs.Ytjokcfenncogkaa
namespace Go.Proofs.Ytjokcfenncogkaa
open Go.RowKit Go.Shelf
set_option linter.unusedVariables false
set_option linter.unusedSimpArgs false
attribute [local go_sem] Oper.semAt_some

/-- the space X, and the box with its place -/
def SeeT (X : Spc) (p b : Nat) (W : World) : Prop := ∃ g, SAt W p g X ∧ W.cell? ⟨b, 0, none⟩ = some (.pointer (some ⟨p, 0, none⟩))
theorem enters_tabs : ∀ args w, (callFunc 127 args).run Try.prog w = .ok (.enter 127 args) w := enters_of Try.func127 (by kernel_rfl) rfl
theorem tabs_val (v : Option Addr) (w : World) :
    Calls Try.prog 56 #[.pointer v] w fun e w' => ∃ b, e = .returned (.func (.func 127) #[] #[.pointer (some ⟨b, 0, none⟩)]) ∧ w.heap.size ≤ b ∧ b < w'.heap.size ∧ w'.cell? ⟨b, 0, none⟩ = some (.pointer v) ∧ w'.frozen? ⟨b, 0, none⟩ = false ∧ Up w w' := by
  go_enter Try.func56, Try.ntmps56
  go_wp2
  go_ret
  exact ⟨w.heap.size, rfl, Nat.le_refl _, by simp, by simp [go_sem], by simp [go_sem], by (repeat (first | with_reducible exact Up.refl _ | with_reducible refine Up.alloc ?_ _ | with_reducible refine Up.drew ?_ | with_reducible refine Up.drewN ?_ _ | with_reducible refine Up.setCell ?_ (by (try simp) <;> omega) _ | with_reducible assumption | with_reducible refine Up.trans ?_ (by assumption)))⟩
set_option maxRecDepth 100000 in
set_option maxHeartbeats 6400000 in
theorem tabs_it {X : Spc} (ok : X.Ok) {p b : Nat} : ItN Try.prog 127 #[.pointer (some ⟨b, 0, none⟩)] (fun x : Int => #[.int .i64 x]) (fun _ => False) (fun _ => True) (SeeT X p b) (fun pre x _ => pre ++ [x] <+: X.tabs) (fun xs => xs = X.tabs) (fun pre => pre <+: X.tabs) := by
  intro k l J Jx N0 W hJ hJx hV hT hNz hV0 hY h0
  refine callsIn_of_wp Try.func127 rfl trivial ?_ rfl
  simp only [Try.ntmps127, List.size_toArray, List.length_cons, List.length_nil, Nat.reduceAdd, Nat.reduceSub, Array.replicate_succ, Array.replicate_zero, List.push_toArray, List.append_toArray, List.nil_append, List.cons_append]
  obtain ⟨g, hs, hb⟩ := hV _ _ _ h0
  have zb := cell_lt hb
  have HN0 := Lib.hid (fnext_is (-1) hs ok)
  have HY := Lib.hid hY
  have HJ := Lib.hid hJ
  have HJx := Lib.hid hJx
  have HVV := Lib.hid hV
  have H0 := Lib.hid h0
  have HE := Lib.hid (fun h => find_empty ok h (-1) 1)
  have HF := Lib.hid (fun h => find_first ok h)
  have HX := Lib.hid (fun W p g (i : Nat) (h : SAt W p g X) => fnext_is (X.tabs.getD i 0) h ok)
  have HNX := Lib.hid (fun (i : Nat) (hi : i < X.tabs.length) => find_next ok hi)
  have HBD := Lib.hid (fun (i : Nat) (hi : i < X.tabs.length) => tabs_facts ok hi)
  have HSRT := Lib.hid (fun (i j : Nat) => sorted_at (i := i) (j := j) (show X.tabs.Pairwise (· < ·) from those_sorted _ _))
  have HNE := Lib.hid (fun (i : Nat) (h0 : 0 < i) (hi : i < X.tabs.length) => tabs_ne h0 hi)
  clear hY hJ hJx hV h0 hT hV0 hNz hs
  obtain ⟨T, hT⟩ : ∃ T, X.tabs = T := ⟨_, rfl⟩
  rw [hT] at HY HE HF HX HNX HBD HNE HSRT ⊢
  obtain ⟨f0, hf0⟩ : ∃ f0, X.find (-1) 1 = f0 := ⟨_, rfl⟩
  rw [hf0] at HN0 HE HF
  obtain ⟨len, hlen⟩ : ∃ len, T.length = len := ⟨_, rfl⟩
  have HLN := Lib.hid hlen
  rw [hlen] at HF HNX HBD HNE
  clear hT hf0
  rcases Nat.eq_zero_or_pos len with hz | hpos
  · have hTn : T = [] := List.eq_nil_of_length_eq_zero (by omega)
    have e0 : f0 = -1 := HE.out hTn
    have HTN := Lib.hid hTn
    subst e0
    clear hTn hz hlen
    gi_wp2_with (refine ⟨trivial, (fun h => by simp [Fence.wide] at h), ?_⟩; gi_at_call 38; (with_reducible refine (callsIn_wide.2 HN0.out).mono ?_); rintro e w2 ⟨rfl, hu2⟩)
    refine bodyPost_ret (results_none rfl _ _ _) rfl ?_
    exact ⟨⟨_, rfl⟩, .inl ⟨[], HTN.out.symm, HJ.out.up H0.out hu2⟩⟩
  · have e0 := HF.out hpos
    have hfb := HBD.out 0 hpos
    rw [← e0] at hfb
    obtain ⟨hfb0, hfb1, -⟩ := hfb
    have HE0 := Lib.hid e0
    have hnf : ¬ f0 < 0 := by omega
    clear e0 hlen
    gi_wp2_with (refine ⟨trivial, (fun h => by simp [Fence.wide] at h), ?_⟩; gi_at_call 38; (with_reducible refine (callsIn_wide.2 HN0.out).mono ?_); rintro e w2 ⟨rfl, hu2⟩)
    have HJ2 := Lib.hid (HJ.out.up H0.out hu2)
    clear hu2 hb
    have HP := Lib.hid (show ∀ i, i < len → T.take i ++ [T.getD i 0] = T.take (i + 1) ∧ T.take (i + 1) <+: T from fun i hi => by
      have hi' : i < T.length := by have := HLN.out; omega
      exact ⟨by rw [List.take_succ_eq_append_getElem hi', List.getD, List.getElem?_eq_getElem hi']; rfl, List.take_prefix _ _⟩)
    obtain ⟨M, hM⟩ : ∃ M, X.r * X.c = M := ⟨_, rfl⟩
    have HSO := Lib.hid (show ∀ i, i + 1 < len → T.getD i 0 < T.getD (i + 1) 0 from fun i hi => HSRT.out i (i + 1) (show i < i + 1 by omega) (by have := HLN.out; omega))
    rw [hM] at HBD
    gi_loopw [4, 5] (fun n more wr => ∃ i : Nat, i ≤ len ∧ n = .int .i64 (T.getD (i % len) 0) ∧ more = .bool (decide (i < len)) ∧ J N0 (T.take i) wr) (fun n more _ => match more with | .bool true => (M - intOf n).toNat + 1 | _ => 0)
    case atStart => exact ⟨0, by omega, by rw [Nat.zero_mod, ← HE0.out], by simp [hpos], by simpa using HJ2.out⟩
    case round =>
      obtain ⟨i, hi, rfl, rfl, hJs⟩ := hrel
      have HJS := Lib.hid hJs
      clear hJs
      by_cases hlt : i < len
      · rw [decide_eq_true hlt, Nat.mod_eq_of_lt hlt]
        obtain ⟨hp1, hp2⟩ := HP.out i hlt
        have HP1 := Lib.hid hp1
        obtain ⟨v, hv⟩ : ∃ v, T.getD i 0 = v := ⟨_, rfl⟩
        have HVE := Lib.hid hv
        have HG := Lib.hid (show T.take i ++ [v] <+: T by rw [← hv, hp1]; exact hp2)
        obtain ⟨v2, hv2⟩ : ∃ v2, T.getD ((i + 1) % len) 0 = v2 := ⟨_, rfl⟩
        have HNW := Lib.hid (fun W p g (h : SAt W p g X) => HX.out W p g i h)
        rw [HNX.out i hlt, hv, hv2] at HNW
        have hvb := HBD.out i hlt
        rw [hv] at hvb
        obtain ⟨v0, v1, -⟩ := hvb
        have HV2 := Lib.hid hv2
        rw [hv]
        clear hv hv2 hp1 hp2
        obtain ⟨fn, tmps, assign, body, hy, hR⟩ := HY.out N0 (T.take i) v wr HJS.out HG.out
        have HRR := Lib.hid hR
        clear hR
        try simp only at hy
        gi_wp2
        refine ⟨fun h => by simp [Fence.wide] at h, ?_⟩
        refine HRR.out.mono ?_
        rintro e W' (⟨rfl, hJ', -⟩ | ⟨rfl, hJ', -⟩)
        · obtain ⟨g2, hs2, hb2⟩ := HVV.out _ _ _ hJ'
          have HJ' := Lib.hid hJ'
          have HNS := Lib.hid (HNW.out W' p g2 hs2)
          have zb2 := cell_lt hb2
          clear hJ' hs2
          by_cases hl2 : i + 1 < len
          · have hne : (v2 == f0) = false := by
              have h1 := HNE.out (i + 1) (by omega) hl2
              have h2 := HV2.out
              rw [Nat.mod_eq_of_lt hl2] at h2
              rw [h2, ← HE0.out] at h1
              simp [h1]
            have HLT := Lib.hid (show v < v2 by
              have h1 := HSO.out i hl2
              have h2 := HV2.out
              rw [Nat.mod_eq_of_lt hl2] at h2
              rw [h2, HVE.out] at h1
              exact h1)
            gi_wp2_with (refine ⟨trivial, (fun h => by simp [Fence.wide] at h), ?_⟩; gi_at_call 38; (with_reducible refine (callsIn_wide.2 HNS.out).mono ?_); rintro e w10 ⟨rfl, hu10⟩)
            go_roundw
            case rel => exact ⟨i + 1, by omega, by rw [← HV2.out], (by have h9 : ¬ v2 = f0 := (by simpa using hne); simp [hl2, h9]), by rw [← HP1.out, HVE.out]; exact HJ.out.up HJ'.out hu10⟩
            case measure =>
              have h9 : (v2 != f0) = true := by simp [bne, hne]
              have := HLT.out
              rw [h9]
              simp only [intOf]; omega
          · have hv2 : v2 = f0 := by
              have h2 := HV2.out
              rw [show i + 1 = len by omega, Nat.mod_self] at h2
              rw [← h2, HE0.out]
            subst hv2
            gi_wp2_with (refine ⟨trivial, (fun h => by simp [Fence.wide] at h), ?_⟩; gi_at_call 38; (with_reducible refine (callsIn_wide.2 HNS.out).mono ?_); rintro e w10 ⟨rfl, hu10⟩)
            go_roundw
            case rel => exact ⟨i + 1, by omega, by rw [← HV2.out], by simp [hl2], by rw [← HP1.out, HVE.out]; exact HJ.out.up HJ'.out hu10⟩
            case measure => simp
        · have HX2 := Lib.hid hJ'
          clear hJ' hy
          gi_wp2
          refine bodyPost_ret (results_none rfl _ _ _) rfl ?_
          exact ⟨⟨_, rfl⟩, .inr ⟨_, HG.out, HX2.out⟩⟩
      · obtain rfl : i = len := by omega
        rw [decide_eq_false hlt]
        have HTT := Lib.hid (show T.take i = T from List.take_of_length_le (by have := HLN.out; omega))
        gi_wp2
        go_end0
        exact ⟨⟨_, rfl⟩, .inl ⟨_, HTT.out, HJS.out⟩⟩
/-- Collect of the tabs -/
theorem collect_tabs {p g b : Nat} {X : Spc} {w : World} (hs : SAt w p g X) (ok : X.Ok) (hb : w.cell? ⟨b, 0, none⟩ = some (.pointer (some ⟨p, 0, none⟩))) :
    Calls Try.prog 55 #[.func (.func 127) #[] #[.pointer (some ⟨b, 0, none⟩)]] w fun e w' => ∃ A c, e = .returned (.slice A X.tabs.length c) ∧ OwnI w.heap.size w' A X.tabs.length c X.tabs ∧ Up w w' := by
  refine (collect_n X.tabs enters_tabs (by have := @tabs_len X; have := ok.small; omega) (tabs_it ok (p := p) (b := b)) (fun k h => h.elim) (fun _ _ => trivial) (fun W hk => ⟨g, hs.held hk (fun h => h) (fun h => h), ((hk.at_ b (cell_lt hb) (fun h => h)).1 0).trans hb⟩) (fun _ _ _ h => h) (fun _ h => h)).mono ?_
  rintro e w' ⟨A, c, rfl, h1, h2⟩
  exact ⟨A, c, rfl, h1, h2.upto (fun i hi => hi.elim)⟩
end Go.Proofs.Ytjokcfenncogkaa
namespace Go.Proofs.Ytjokcfenncogkaa
open Go.RowKit Go.Shelf
set_option linter.unusedVariables false
set_option linter.unusedSimpArgs false
attribute [local go_sem] Oper.semAt_some

theorem keep_up0 {w W : World} {E : Nat → Prop} {w0 : World} (hu : Up w0 w) (hk : Keep E w W) (he : ∀ k, E k → w0.heap.size ≤ k) : Up w0 W := hu.keep hk he
theorem pre_take {L : List Int} {a : List Int} (h : a <+: L) : L.take a.length = a := (List.prefix_iff_eq_take.1 h).symm
set_option maxRecDepth 100000 in
set_option maxHeartbeats 6400000 in
theorem ltabs_is {p g most : Nat} {X : Spc} {w : World} {K : List Int} (hs : SAt w p g X) (ok : X.Ok) (h1 : 0 < most) (h2 : most ≤ 1000) (hKK : X.tabs.take most = K) :
    Calls Try.prog 62 #[.pointer (some ⟨p, 0, none⟩), .int .i64 (most : Int)] w fun e w' => ∃ A c, e = .returned (.slice A K.length c) ∧ OwnI w.heap.size w' A K.length c K ∧ Up w w' := by
  have HKK := Lib.hid hKK
  clear hKK
  obtain ⟨i0, hi, hz0, hz1, hz2⟩ := info_parts info_i64
  have HS := Lib.hid hs
  have HO := Lib.hid ok
  have hsm := ok.small
  have HAT := Lib.hid (those_len (fun k => X.fst (k : Int)) X.L.length)
  obtain ⟨m, hm⟩ : ∃ m, X.L.length = m := ⟨_, rfl⟩
  have HM := Lib.hid hm
  rw [hm] at hsm
  clear hs ok hm
  refine (callsIn_wide (n := 9)).1 ?_
  refine callsIn_of_wp_marks Try.func62 rfl trivial ?_ rfl
  simp only [Try.ntmps62, List.size_toArray, List.length_cons, List.length_nil, Nat.reduceAdd, Nat.reduceSub, Array.replicate_succ, Array.replicate_zero, List.push_toArray, List.append_toArray, List.nil_append, List.cons_append]
  refine wpIn_wide.2 ?_
  go_wp2_with fail
  refine (tabs_val _ _).mono ?_
  rintro e w3 ⟨b2, rfl, hb2, hb2', hc2, -, hu3⟩
  simp at hb2
  obtain ⟨k1, f1⟩ := hu3.at_ w.heap.size (by (try simp) <;> omega)
  obtain ⟨k2, f2⟩ := hu3.at_ (w.heap.size + 1) (by (try simp) <;> omega)
  have uw : Up w w3 := by (repeat (first | with_reducible exact Up.refl _ | with_reducible refine Up.alloc ?_ _ | with_reducible refine Up.drew ?_ | with_reducible refine Up.drewN ?_ _ | with_reducible refine Up.setCell ?_ (by (try simp) <;> omega) _ | with_reducible assumption | with_reducible refine Up.trans ?_ (by assumption)))
  have c1 : w3.cell? ⟨w.heap.size, 0, none⟩ = some (.int .i64 (most : Int)) := (k1 0).trans (by simp [go_sem])
  have c2 : w3.cell? ⟨w.heap.size + 1, 0, none⟩ = some (.slice none 0 0) := (k2 0).trans (by simp [go_sem])
  have g2 : w3.frozen? ⟨w.heap.size + 1, 0, none⟩ = false := (f2 0).trans (by simp [go_sem])
  have hzw := hu3.size
  simp at hzw
  have HU := Lib.hid uw
  have HC1 := Lib.hid c1
  have HC2 := Lib.hid hc2
  clear k1 k2 f1 f2 hu3 uw hc2
  go_wp2_with fail
  clear c1
  refine wpIn_wide.1 (range_n (n := 9) (gf := 127) (lb := #[.pointer (some ⟨b2, 0, none⟩)]) rfl enters_tabs (tabs_it HO.out (p := p) (b := b2)) (fun _ => rfl)
    (fun _ => False) (fun k hk => hk.elim) (fun k hk => hk.elim) (fun _ _ => trivial)
    (fun N pre W => OutB (fun k => k = w.heap.size + 1) w3 w3.heap.size (w.heap.size + 1) N pre W ∧ pre.length < most)
    (fun c N xs W => match c with
      | .exit id => id = 0 ∧ OutB (fun k => k = w.heap.size + 1) w3 w3.heap.size (w.heap.size + 1) N xs W ∧ xs <+: X.tabs ∧ xs.length = most
      | _ => False)
    (fun N N' s A A' h hk hn => ⟨OutB.own N N' _ A A' h.1 hk hn, h.2⟩) ?ownx ?see ?start
    (fun pre x a' N W' => pre ++ [x] <+: X.tabs ∧ a' = { tmps := #[.pointer (some ⟨p, 0, none⟩), .int .i64 (most : Int), undef, .pointer (some ⟨w.heap.size, 0, none⟩), .slice none 0 0, .pointer (some ⟨w.heap.size + 1, 0, none⟩), .int .i64 x, .pointer (some ⟨p, 0, none⟩), .func (.func 127) #[] #[.pointer (some ⟨b2, 0, none⟩)], .int .i64 x, undef, undef, undef, undef, undef, undef, undef, undef, undef], defers := [] })
    (fun _ _ _ _ _ _ _ _ h _ _ => h) ?assign ?body ?done ?stop)
  case ownx =>
    intro c N N' xs A A' h hk hn
    cases c
    case exit id => exact ⟨h.1, OutB.own N N' _ A A' h.2.1 hk hn, h.2.2⟩
    all_goals exact h.elim
  case see =>
    rintro N pre W ⟨h1, h2⟩
    have hsw := HS.out.up HU.out
    have hlt := HS.out.lt
    have hlg := HS.out.cells.2.1
    exact ⟨g, hsw.held h1.up (by omega) (by omega), ((h1.up.at_ b2 (by omega) (by omega)).1 0).trans HC2.out⟩
  case start => exact ⟨⟨Keep.refl _ _, ⟨none, 0, 0, c2, g2, OwnI.nil _ _, fun p hp => by cases hp⟩, fun h => h, fun k h => h.elim, Nat.le_refl _⟩, h1⟩
  case assign =>
    rintro l N pre x W K hz hI hG hK
    have HI := Lib.hid hI
    have HG := Lib.hid (show pre ++ [x] <+: X.tabs from hG)
    clear hI hG
    gi_wp2
    exact hK _ _ (Held.refl _ _) HI.out ⟨HG.out, rfl⟩
  case body =>
    rintro l N pre x a' W hl hr hz ⟨hI, hT2⟩ ⟨hT1, rfl⟩
    have HI := Lib.hid hI
    obtain ⟨A, n, c0, q1, q2, q3, q5⟩ := hI.ex
    have hlen := hT2
    have hn := q3.len
    subst hn
    have zo := cell_lt q1
    have hbw := hI.bw
    have hu := hI.up
    have m1 : W.cell? ⟨w.heap.size, 0, none⟩ = some (.int .i64 (most : Int)) := ((hu.at_ w.heap.size (by omega) (by omega)).1 0).trans HC1.out
    have zm := cell_lt m1
    have H3 := Lib.hid q3
    have HZ := Lib.hid hz
    have H5 := Lib.hid q5
    have HTK := Lib.hid hT1
    have HNE := Lib.hid (show ∀ k, k < w3.heap.size → (Value.slice A pre.length c0).ownBlock ≠ some k from fun k hk e => by have := own_bd q3.own _ e; omega)
    clear q3 hz q5 hI hu hT1 hr hl
    have hn5 : pre.length ≤ 65535 := by omega
    have zo2 : w.heap.size + 1 < W.heap.size := zo
    have zm2 : w.heap.size < W.heap.size := zm
    have HAL := Lib.hid (show ∀ o v, o < W.heap.size → (W.alloc v).cell? ⟨o, 0, none⟩ = W.cell? ⟨o, 0, none⟩ from fun o v ho => World.cell?_alloc_lt W v ⟨o, 0, none⟩ ho)
    have HAF := Lib.hid (show ∀ o v, o < W.heap.size → (W.alloc v).frozen? ⟨o, 0, none⟩ = W.frozen? ⟨o, 0, none⟩ from fun o v ho => (((Up.refl W).alloc v).at_ o ho).2 0)
    rcases Nat.lt_or_ge (pre.length + 1) most with hlast | hlast
    · have e1 : (((pre.length : Nat) : Int) + 1 == (most : Int)) = false := by simp; omega
      gi_wp2_with (gi_at_builtin; refine wpListIn_push i0 hi hz0 hz1 hz2 Try.underlying50 rfl (.tmp 10) (.tmp 12) rfl W x rfl W.heap.size rfl w3.heap.size A pre.length c0 pre rfl rfl H3.out hn5 hbw ?_; intro A1 c1 w1 hown1 hg1 hbl1 hp1; obtain ⟨gc, gz⟩ := grown_at hg1 (w.heap.size + 1) (by simp; omega) (HNE.out _ (by omega)); obtain ⟨gm, gmf⟩ := grown_at hg1 w.heap.size (by simp; omega) (HNE.out _ (by omega)); have gc1 := (gc 0).trans ((HAL.out _ _ zo2).trans q1); have gz1 := (gz 0).trans ((HAF.out _ _ zo2).trans q2); have gm1 := (gm 0).trans ((HAL.out _ _ zm2).trans m1); have HO2 := Lib.hid hown1; have HG1 := Lib.hid hg1; have HB1 := Lib.hid hbl1; have HP1 := Lib.hid hp1; have hzw1 := hbl1.size; clear hown1 hg1 hbl1 hp1 gc gz gm gmf)
      have hf := OutB.push (T := fun k => k = w.heap.size + 1) (r := (Value.slice A pre.length c0).ownBlock) HI.out HZ.out H5.out HO2.out HG1.out (fun k hk => by
        cases A with
        | none => simp [Value.ownBlock] at hk
        | some p => simp [Value.ownBlock] at hk; exact ⟨p, rfl, hk⟩) HB1.out (by omega) (Nat.le_refl _) HP1.out gc1 gz1 (.inl rfl)
      exact ⟨hf.1, hf.2, by simp; omega⟩
    · have e1 : (((pre.length : Nat) : Int) + 1 == (most : Int)) = true := by simp; omega
      gi_wp2_with (gi_at_builtin; refine wpListIn_push i0 hi hz0 hz1 hz2 Try.underlying50 rfl (.tmp 10) (.tmp 12) rfl W x rfl W.heap.size rfl w3.heap.size A pre.length c0 pre rfl rfl H3.out hn5 hbw ?_; intro A1 c1 w1 hown1 hg1 hbl1 hp1; obtain ⟨gc, gz⟩ := grown_at hg1 (w.heap.size + 1) (by simp; omega) (HNE.out _ (by omega)); obtain ⟨gm, gmf⟩ := grown_at hg1 w.heap.size (by simp; omega) (HNE.out _ (by omega)); have gc1 := (gc 0).trans ((HAL.out _ _ zo2).trans q1); have gz1 := (gz 0).trans ((HAF.out _ _ zo2).trans q2); have gm1 := (gm 0).trans ((HAL.out _ _ zm2).trans m1); have HO2 := Lib.hid hown1; have HG1 := Lib.hid hg1; have HB1 := Lib.hid hbl1; have HP1 := Lib.hid hp1; have hzw1 := hbl1.size; clear hown1 hg1 hbl1 hp1 gc gz gm gmf)
      have hf := OutB.push (T := fun k => k = w.heap.size + 1) (r := (Value.slice A pre.length c0).ownBlock) HI.out HZ.out H5.out HO2.out HG1.out (fun k hk => by
        cases A with
        | none => simp [Value.ownBlock] at hk
        | some p => simp [Value.ownBlock] at hk; exact ⟨p, rfl, hk⟩) HB1.out (by omega) (Nat.le_refl _) HP1.out gc1 gz1 (.inl rfl)
      exact ⟨hf.1, rfl, hf.2, HTK.out, by simp; omega⟩
  case done =>
    rintro Dd N xs W hD hND hN0 hS ⟨hI, hp⟩ hK
    obtain ⟨A, c, h2, h4⟩ := hI.fin
    have HI := Lib.hid hI
    have HK := Lib.hid hK
    have HND := Lib.hid hND
    have zo := cell_lt h2
    have hX : xs = K := by
      have e : X.tabs = xs := hS.symm
      rw [← HKK.out, e, List.take_of_length_le (by omega)]
    rw [hX] at h2
    have HX := Lib.hid hX
    clear hI hK hND h4 hX hS
    go_wp2
    refine ⟨by simp, .inl ⟨_, _, rfl, run_takeDeferred HK.out, ?_⟩⟩
    have hfin := OutB.own N N _ W (W.putObj Dd (.deferred none)) HI.out (keep_put _ HND.out) (fun k hk => .inl hk)
    obtain ⟨A', c', h2', h4'⟩ := hfin.fin
    rw [HX.out] at h2' h4'
    have e : A' = A ∧ c' = c := by
      have := (keep_put (N := fun k => k = Dd) (W := W) (l := Dd) (.deferred none) rfl).at_ (w.heap.size + 1) zo (fun e => HI.out.no (e ▸ HND.out))
      have h := (this.1 0).symm.trans h2'
      rw [h2] at h
      injection h with h
      injection h with h1 h2 h3
      exact ⟨h1.symm, h3.symm⟩
    obtain ⟨rfl, rfl⟩ := e
    exact ⟨_, results_tmp rfl _ _ _, A', c', rfl, h4'.low (by omega), keep_up0 HU.out hfin.up (fun k hk => by omega)⟩
  case stop =>
    rintro Dd N c pre W hD hND hN0 hSp hIx hK
    cases c
    case exit id =>
      obtain ⟨rfl, hI, hT, hlen⟩ := hIx
      refine wpIn_wide.2 ?_
      obtain ⟨A, c, h2, h4⟩ := hI.fin
      have HI := Lib.hid hI
      have HK := Lib.hid hK
      have HND := Lib.hid hND
      have zo := cell_lt h2
      have hX : pre = K := by rw [← HKK.out, ← hlen]; exact (pre_take hT).symm
      rw [hX] at h2
      have HX := Lib.hid hX
      clear hI hK hND h4 hX hT hlen
      go_wp2
      refine ⟨by simp, .inl ⟨_, _, rfl, run_takeDeferred HK.out, ?_⟩⟩
      have hfin := OutB.own N N _ W (W.putObj Dd (.deferred none)) HI.out (keep_put _ HND.out) (fun k hk => .inl hk)
      obtain ⟨A', c', h2', h4'⟩ := hfin.fin
      rw [HX.out] at h2' h4'
      have e : A' = A ∧ c' = c := by
        have := (keep_put (N := fun k => k = Dd) (W := W) (l := Dd) (.deferred none) rfl).at_ (w.heap.size + 1) zo (fun e => HI.out.no (e ▸ HND.out))
        have h := (this.1 0).symm.trans h2'
        rw [h2] at h
        injection h with h
        injection h with h1 h2 h3
        exact ⟨h1.symm, h3.symm⟩
      obtain ⟨rfl, rfl⟩ := e
      exact ⟨_, results_tmp rfl _ _ _, A', c', rfl, h4'.low (by omega), keep_up0 HU.out hfin.up (fun k hk => by omega)⟩
    all_goals exact hIx.elim
set_option maxRecDepth 100000 in
set_option maxHeartbeats 3200000 in
/-- slices.Index of ints -/
theorem index_i (A : Option Addr) (n c : Nat) (L : List Int) (x : Int) (w : World) (hr : Reads w w.heap.size 1 A n (ns L)) (hL : L.length = n) (hn : n ≤ 65536) :
    Calls Try.prog 60 #[.slice A n c, .int .i64 x] w fun e w' => e = .returned (.int .i64 (match L.idxOf? x with | some i => (i : Int) | none => -1)) ∧ Up w w' := by
  have HR := Lib.hid hr
  have HL := Lib.hid hL
  have HI := Lib.hid (show ∀ j, j ≤ n → (∀ i, i < j → L.getD i 0 ≠ x) → j < n → L.getD j 0 = x → L.idxOf? x = some j from fun j _ h1 h2 h3 => by
    rw [List.idxOf?, List.findIdx?_eq_some_iff_getElem]
    refine ⟨by omega, ?_, fun i hi => ?_⟩
    · rw [List.getD, List.getElem?_eq_getElem (by omega)] at h3; simpa using h3
    · have := h1 i hi
      rw [List.getD, List.getElem?_eq_getElem (by omega)] at this
      simpa using this)
  have HN := Lib.hid (show (∀ i, i < n → L.getD i 0 ≠ x) → L.idxOf? x = none from fun h1 => by
    rw [List.idxOf?, List.findIdx?_eq_none_iff]
    intro y hy
    obtain ⟨t, ht, rfl⟩ := List.getElem_of_mem hy
    have := h1 t (by omega)
    rw [List.getD, List.getElem?_eq_getElem ht] at this
    simpa using this)
  have HI := Lib.hid (show ∀ j, j ≤ n → (∀ i, i < j → L.getD i 0 ≠ x) → j < n → L.getD j 0 = x → (match L.idxOf? x with | some i => (i : Int) | none => -1) = (j : Int) from fun j h0 h1 h2 h3 => by rw [HI.out j h0 h1 h2 h3])
  have HN := Lib.hid (show (∀ i, i < n → L.getD i 0 ≠ x) → (match L.idxOf? x with | some i => (i : Int) | none => -1) = -1 from fun h1 => by rw [HN.out h1])
  obtain ⟨res, hres⟩ : ∃ res, (match L.idxOf? x with | some i => (i : Int) | none => -1) = res := ⟨_, rfl⟩
  rw [hres] at HI HN ⊢
  clear hr hL hres
  go_enter Try.func60, Try.ntmps60
  go_wp2_with fail
  go_loopw [8] (fun i wr => ∃ j : Nat, j ≤ n ∧ i = .int .i64 (j : Int) ∧ (∀ i, i < j → L.getD i 0 ≠ x) ∧ Up w wr) (fun i _ => n - (intOf i).toNat)
  case atStart => exact ⟨0, by omega, rfl, fun i hi => by omega, Up.refl _⟩
  case round =>
    obtain ⟨j, hj, rfl, hall, huj⟩ := hrel
    have HUJ := Lib.hid huj
    have HRJ := Lib.hid (HR.out.up huj)
    clear huj
    by_cases hlt : j < n
    · obtain ⟨b, off, rfl, hb⟩ := HRJ.out.form (by omega)
      have hx0 : wr.cell? ⟨b, off + j, none⟩ = some (.int .i64 (L.getD j 0)) := by
        obtain ⟨_, u, hu, hcu⟩ := HRJ.out.at_ (j := j) (by omega)
        rw [hcu, ← hu]
        simp only [ns, List.getElem?_map]
        rw [List.getElem?_eq_getElem (by have := HL.out; omega), List.getD, List.getElem?_eq_getElem (by have := HL.out; omega)]; rfl
      have HA := Lib.hid hall
      have HIJ := Lib.hid (HI.out j hj hall hlt)
      obtain ⟨y, hy⟩ : ∃ y, L.getD j 0 = y := ⟨_, rfl⟩
      have HY := Lib.hid hy
      rw [hy] at hx0 HIJ
      have hjn : (j : Int) < (n : Int) := by omega
      clear hall hy
      by_cases hxy : y = x
      · have e1 : (x == y) = true := by simp [hxy]
        have HRS := Lib.hid (HIJ.out hxy)
        clear hxy
        go_wp2_with fail
        go_ret
        exact ⟨by rw [HRS.out]; rfl, HUJ.out⟩
      · have e1 : (x == y) = false := by simp; exact fun e => hxy e.symm
        have HNX := Lib.hid hxy
        clear hxy
        go_wp2_with fail
        go_roundw
        case rel => exact ⟨j + 1, by omega, by go_num, fun i hi => by
          rcases Nat.lt_or_ge i j with h | h
          · exact HA.out i h
          · obtain rfl : i = j := by omega
            rw [HY.out]; exact HNX.out, HUJ.out⟩
        case measure => simp [intOf]; omega
    · obtain rfl : j = n := by omega
      have HRS := Lib.hid (HN.out hall)
      clear hall
      go_wp2_with fail
      go_ret
      exact ⟨by rw [HRS.out]; rfl, HUJ.out⟩
end Go.Proofs.Ytjokcfenncogkaa
namespace Go.Proofs.Ytjokcfenncogkaa
open Go.RowKit Go.Shelf
set_option linter.unusedVariables false
set_option linter.unusedSimpArgs false

/-- the box b holds v, and is no other's -/
structure BoxAt (N : Nat → Prop) (W : World) (b : Nat) (v : Value) : Prop where
  c : W.cell? ⟨b, 0, none⟩ = some v
  f : W.frozen? ⟨b, 0, none⟩ = false
  n : ¬ N b
theorem BoxAt.lt {N : Nat → Prop} {W : World} {b : Nat} {v : Value} (h : BoxAt N W b v) : b < W.heap.size := cell_lt h.c
theorem BoxAt.keep {N N' : Nat → Prop} {W W' : World} {b : Nat} {v : Value} (h : BoxAt N W b v) (hk : Keep N W W') (hn : ∀ k, N' k → N k ∨ (W.heap.size ≤ k ∧ k < W'.heap.size)) : BoxAt N' W' b v := by
  have z := h.lt
  refine ⟨((hk.at_ b z h.n).1 0).trans h.c, ((hk.at_ b z h.n).2 0).trans h.f, fun e => ?_⟩
  rcases hn _ e with e | e
  · exact h.n e
  · omega
theorem BoxAt.up {N : Nat → Prop} {W W' : World} {b : Nat} {v : Value} (h : BoxAt N W b v) (hu : Up W W') : BoxAt N W' b v := h.keep (Keep.of_up hu) (fun _ h => .inl h)
theorem BoxAt.other {N : Nat → Prop} {W : World} {b : Nat} {v : Value} (h : BoxAt N W b v) {b' : Nat} (u : Value) (hb : b' ≠ b) : BoxAt N (W.setCell ⟨b', 0, none⟩ u) b v :=
  ⟨(World.cell?_setCell_other _ _ _ _ (fun e => hb (by injection e))).trans h.c, by rw [World.frozen?_setCell]; exact h.f, h.n⟩
theorem BoxAt.set {N : Nat → Prop} {W : World} {b : Nat} {v : Value} (h : BoxAt N W b v) (u : Value) : BoxAt N (W.setCell ⟨b, 0, none⟩ u) b u :=
  ⟨World.cell?_setCell_same (h := h.c) .., by rw [World.frozen?_setCell]; exact h.f, h.n⟩
theorem BoxAt.held {N : Nat → Prop} {W : World} {b : Nat} {v : Value} (h : BoxAt N W b v) (u : Value) : Held N W (W.setCell ⟨b, 0, none⟩ u) := fun k hk => Below.heap_setCell W ⟨b, 0, none⟩ _ k (fun e => h.n (by simp only at e; subst e; exact hk))
theorem BoxAt.put {N : Nat → Prop} {W : World} {b : Nat} {v : Value} (h : BoxAt N W b v) {D : Nat} (o : Obj) (hD : N D) : BoxAt N (W.putObj D o) b v := h.keep (keep_put o hD) (fun _ h => .inl h)
/-- old blocks as they were, the iterator's own are new -/
structure UpN (w : World) (N : Nat → Prop) (W : World) : Prop where
  up : Up w W
  nw : ∀ k, N k → w.heap.size ≤ k
theorem UpN.keep {w : World} {N N' : Nat → Prop} {W W' : World} (h : UpN w N W) (hk : Keep N W W') (hn : ∀ k, N' k → N k ∨ (W.heap.size ≤ k ∧ k < W'.heap.size)) : UpN w N' W' := by
  refine ⟨h.up.keep hk h.nw, fun k e => ?_⟩
  rcases hn _ e with e | e
  · exact h.nw k e
  · have := h.up.size; omega
theorem UpN.up2 {w : World} {N : Nat → Prop} {W W' : World} (h : UpN w N W) (hu : Up W W') : UpN w N W' := ⟨h.up.trans hu, h.nw⟩
theorem UpN.set {w : World} {N : Nat → Prop} {W : World} (h : UpN w N W) {b : Nat} (hb : w.heap.size ≤ b) (u : Value) : UpN w N (W.setCell ⟨b, 0, none⟩ u) := ⟨h.up.setCell hb u, h.nw⟩
theorem UpN.put {w : World} {N : Nat → Prop} {W : World} (h : UpN w N W) {D : Nat} (o : Obj) (hD : N D) : Up w (W.putObj D o) := h.up.keep (keep_put (N := N) o hD) h.nw
end Go.Proofs.Ytjokcfenncogkaa
namespace Go.Proofs.Ytjokcfenncogkaa
open Go.RowKit Go.Shelf
set_option linter.unusedVariables false
set_option linter.unusedSimpArgs false
attribute [local go_sem] Oper.semAt_some

/-- which one of a list, or -1 -/
def idxVal (T : List Int) (x : Int) : Int := match T.idxOf? x with | some i => (i : Int) | none => -1
theorem idx_none {T : List Int} {x : Int} (h : ∀ y ∈ T, y ≠ x) : idxVal T x = -1 := by
  have : T.idxOf? x = none := by
    rw [List.idxOf?, List.findIdx?_eq_none_iff]
    intro y hy
    simpa using h y hy
  unfold idxVal
  rw [this]
theorem idx_pre {T pre : List Int} {x : Int} (h : pre ++ [x] <+: T) (hp : ∀ y ∈ pre, y ≠ x) : idxVal T x = (pre.length : Int) := by
  obtain ⟨r, rfl⟩ := h
  have : (pre ++ [x] ++ r).idxOf? x = some pre.length := by
    rw [List.idxOf?, List.findIdx?_eq_some_iff_getElem]
    refine ⟨by simp, by simp, fun i hi => ?_⟩
    have h1 : (pre ++ [x] ++ r)[i]'(by simp; omega) = pre[i] := by
      rw [List.getElem_append_left (by simp; omega), List.getElem_append_left hi]
    rw [h1]
    simpa using hp _ (List.getElem_mem hi)
  unfold idxVal
  rw [this]
set_option maxRecDepth 100000 in
set_option maxHeartbeats 6400000 in
theorem cindex_is {p g : Nat} {X : Spc} {w : World} (hs : SAt w p g X) (ok : X.Ok) :
    Calls Try.prog 59 #[.pointer (some ⟨p, 0, none⟩)] w fun e w' => e = .returned (.int .i64 (idxVal X.tabs X.cur)) ∧ Up w w' := by
  have HS := Lib.hid hs
  have HO := Lib.hid ok
  have HIT := Lib.hid (fun b => tabs_it ok (p := p) (b := b))
  have HCU := Lib.hid (fun W (h : SAt W p g X) => scur_is h)
  have hlen : X.tabs.length ≤ 3564 := Nat.le_trans tabs_len ok.small
  obtain ⟨T, hT⟩ : ∃ T, X.tabs = T := ⟨_, rfl⟩
  rw [hT] at hlen HIT ⊢
  obtain ⟨cu, hcu⟩ : ∃ cu, X.cur = cu := ⟨_, rfl⟩
  rw [hcu] at HCU ⊢
  have HI1 := Lib.hid (fun (h : ∀ y ∈ T, y ≠ cu) => idx_none h)
  have HI2 := Lib.hid (fun pre (h : pre ++ [cu] <+: T) (hp : ∀ y ∈ pre, y ≠ cu) => idx_pre h hp)
  generalize idxVal T cu = res at *
  clear hs ok hT hcu
  refine (callsIn_wide (n := 9)).1 ?_
  refine callsIn_of_wp_marks Try.func59 rfl trivial ?_ rfl
  simp only [Try.ntmps59, List.size_toArray, List.length_cons, List.length_nil, Nat.reduceAdd, Nat.reduceSub, Array.replicate_succ, Array.replicate_zero, List.push_toArray, List.append_toArray, List.nil_append, List.cons_append]
  refine wpIn_wide.2 ?_
  go_wp2_with fail
  refine (tabs_val _ _).mono ?_
  rintro e w3 ⟨b, rfl, hb, hz, hcb, hfb, hu3⟩
  simp at hb hz
  have hc : ∀ k, k < w.heap.size + 3 → (∀ o, w3.cell? ⟨k, o, none⟩ = _) ∧ (∀ o, w3.frozen? ⟨k, o, none⟩ = _) := fun k hk => hu3.at_ k (by (try simp) <;> omega)
  have B0 : BoxAt (fun _ => False) w3 w.heap.size (.pointer (some ⟨p, 0, none⟩)) := ⟨((hc _ (by omega)).1 0).trans (by simp [go_sem]), ((hc _ (by omega)).2 0).trans (by simp [go_sem]), fun h => h⟩
  have B1 : BoxAt (fun _ => False) w3 (w.heap.size + 1) (.int .i64 0) := ⟨((hc _ (by omega)).1 0).trans (by simp [go_sem]), ((hc _ (by omega)).2 0).trans (by simp [go_sem]), fun h => h⟩
  have B2 : BoxAt (fun _ => False) w3 (w.heap.size + 1 + 1) (.int .i64 ((0 : Nat) : Int)) := ⟨((hc _ (by omega)).1 0).trans (by simp [go_sem]), ((hc _ (by omega)).2 0).trans (by simp [go_sem]), fun h => h⟩
  have B3 : BoxAt (fun _ => False) w3 b (.pointer (some ⟨p, 0, none⟩)) := ⟨hcb, hfb, fun h => h⟩
  have HU := Lib.hid (show Up w w3 by (repeat (first | with_reducible exact Up.refl _ | with_reducible refine Up.alloc ?_ _ | with_reducible refine Up.drew ?_ | with_reducible refine Up.drewN ?_ _ | with_reducible refine Up.setCell ?_ (by (try simp) <;> omega) _ | with_reducible assumption | with_reducible refine Up.trans ?_ (by assumption))))
  have HBB := Lib.hid (show _ ∧ _ ∧ _ ∧ _ from ⟨B0, B1, B2, B3⟩)
  have HNE := Lib.hid (show b ≠ w.heap.size + 1 ∧ b ≠ w.heap.size + 1 + 1 from ⟨by omega, by omega⟩)
  clear hc hu3 hb hz hcb hfb B0 B1 B2 B3
  go_wp2_with fail
  refine wpIn_wide.1 (range_n (n := 9) (gf := 127) (lb := #[.pointer (some ⟨b, 0, none⟩)]) rfl enters_tabs (HIT.out b) (fun _ => rfl)
    (fun _ => False) (fun k hk => hk.elim) (fun k hk => hk.elim) (fun _ _ => trivial)
    (fun N pre W => UpN w N W ∧ BoxAt N W w.heap.size (.pointer (some ⟨p, 0, none⟩)) ∧ BoxAt N W (w.heap.size + 1) (.int .i64 0) ∧ BoxAt N W (w.heap.size + 1 + 1) (.int .i64 (pre.length : Int)) ∧ BoxAt N W b (.pointer (some ⟨p, 0, none⟩)) ∧ ∀ y ∈ pre, y ≠ cu)
    (fun c N xs W => match c with | .ret => UpN w N W ∧ ∃ pre, xs = pre ++ [cu] ∧ (∀ y ∈ pre, y ≠ cu) ∧ BoxAt N W (w.heap.size + 1) (.int .i64 (pre.length : Int)) | _ => False)
    (fun N N' s A A' h hk hn => ⟨h.1.keep hk hn, h.2.1.keep hk hn, h.2.2.1.keep hk hn, h.2.2.2.1.keep hk hn, h.2.2.2.2.1.keep hk hn, h.2.2.2.2.2⟩) ?ownx
    (fun N pre W h => ⟨g, HS.out.up h.1.up, h.2.2.2.2.1.c⟩) ⟨⟨HU.out, fun k h => h.elim⟩, HBB.out.1, HBB.out.2.1, HBB.out.2.2.1, HBB.out.2.2.2, by simp⟩
    (fun pre x a' N W' => pre ++ [x] <+: T ∧ a' = { tmps := #[.pointer (some ⟨p, 0, none⟩), .pointer (some ⟨w.heap.size, 0, none⟩), .pointer (some ⟨w.heap.size + 1, 0, none⟩), .pointer (some ⟨w.heap.size + 1 + 1, 0, none⟩), .int .i64 x, .pointer (some ⟨p, 0, none⟩), .func (.func 127) #[] #[.pointer (some ⟨b, 0, none⟩)], .int .i64 x, undef, undef, undef, undef, undef, undef, undef], defers := [] })
    (fun _ _ _ _ _ _ _ _ h _ _ => h) ?assign ?body ?done ?stop)
  case ownx =>
    intro c N N' xs A A' h hk hn
    cases c
    case ret =>
      obtain ⟨h1, pre, h2, h3, h4⟩ := h
      exact ⟨h1.keep hk hn, pre, h2, h3, h4.keep hk hn⟩
    all_goals exact h.elim
  case assign =>
    intro l N pre x W K hz hI hG hK
    have HI := Lib.hid hI
    have HG := Lib.hid hG
    clear hI hG
    gi_wp2
    exact hK _ _ (Held.refl _ _) HI.out ⟨HG.out, rfl⟩
  case body =>
    rintro l N pre x a' W hl hr hz ⟨h1, h2, h3, h4, h5, h6⟩ ⟨hG, rfl⟩
    have hpl : pre.length + 1 ≤ T.length := by have := hG.length_le; simpa using this
    have HI := Lib.hid (show _ ∧ _ ∧ _ ∧ _ ∧ _ ∧ _ from ⟨h1, h2, h3, h4, h5, h6⟩)
    have HC := Lib.hid (HCU.out W (HS.out.up h1.up))
    have c0 := h2.c
    have c1 := h3.c
    have f1 := h3.f
    have c2 := h4.c
    have f2 := h4.f
    have z0 := h2.lt
    have z1 := h3.lt
    have z2 := h4.lt
    clear h1 h2 h3 h4 h5 h6 hz hr hl hG
    by_cases hx : x = cu
    · subst hx
      gi_wp2_with (refine ⟨trivial, ?_⟩; gi_at_call 33; (with_reducible refine (CallsIn.inRound _ (callsIn_wide.2 HC.out)).mono ?_); rintro e w9 ⟨rfl, rfl⟩)
      obtain ⟨h1, h2, h3, h4, h5, h6⟩ := HI.out
      exact ⟨h3.held _, h1.set (by omega) _, pre, rfl, h6, h3.set _⟩
    · have e1 : (x == cu) = false := by simp [hx]
      have HX := Lib.hid hx
      clear hx
      gi_wp2_with (refine ⟨trivial, ?_⟩; gi_at_call 33; (with_reducible refine (CallsIn.inRound _ (callsIn_wide.2 HC.out)).mono ?_); rintro e w9 ⟨rfl, rfl⟩)
      obtain ⟨h1, h2, h3, h4, h5, h6⟩ := HI.out
      refine ⟨h4.held _, h1.set (by omega) _, h2.other _ (by omega), h3.other _ (by omega), ?_, h5.other _ (fun e => HNE.out.2 e.symm), fun y hy => ?_⟩
      · rw [List.length_append]; exact h4.set _
      · simp at hy
        rcases hy with hy | rfl
        · exact h6 y hy
        · exact HX.out
  case done =>
    rintro Dd N xs W hD hND hN0 hS ⟨h1, h2, h3, h4, h5, h6⟩ hK
    have HRS := Lib.hid (show res = -1 from (HI1.out (by rw [← hS]; exact h6)))
    have HB := Lib.hid h3
    have HU1 := Lib.hid h1
    have HK := Lib.hid hK
    have HND := Lib.hid hND
    have c1 := h3.c
    have f1 := h3.f
    have z1 := h3.lt
    clear h1 h2 h3 h4 h5 h6 hK hND hS
    go_wp2
    have HDN : Dd ≠ w.heap.size + 1 := fun e => HB.out.n (e ▸ HND.out)
    have HK2 : (W.setCell ⟨w.heap.size + 1, 0, none⟩ (.int .i64 (-1))).heap[Dd]? = some (.deferred (some [])) := (Below.heap_setCell W ⟨w.heap.size + 1, 0, none⟩ _ Dd HDN).trans HK.out
    have HR2 := ((HB.out.set (.int .i64 (-1))).put (.deferred none) HND.out).c
    refine ⟨by simp, .inl ⟨_, _, rfl, run_takeDeferred HK2, ?_⟩⟩
    refine ⟨.int .i64 (-1), by simp [results, Try.results59, go_sem, HR2], by rw [HRS.out], ?_⟩
    exact (HU1.out.set (by omega) _).put _ HND.out
  case stop =>
    rintro Dd N c pre0 W hD hND hN0 hSp hIx hK
    cases c
    case ret =>
      refine wpIn_wide.2 ?_
      obtain ⟨h1, pre, h2, h3, h4⟩ := hIx
      have HRS := Lib.hid (show res = (pre.length : Int) from HI2.out pre (by rw [← h2]; exact hSp) h3)
      have HB := Lib.hid h4
      have HU1 := Lib.hid h1
      have HK := Lib.hid hK
      have HND := Lib.hid hND
      clear h1 h2 h3 h4 hK hND hSp
      go_wp2
      have HR2 := (HB.out.put (.deferred none) HND.out).c
      refine ⟨by simp, .inl ⟨_, _, rfl, run_takeDeferred HK.out, ?_⟩⟩
      refine ⟨.int .i64 (pre.length : Int), by simp [results, Try.results59, go_sem, HR2], by rw [HRS.out], ?_⟩
      exact HU1.out.put _ HND.out
    all_goals exact hIx.elim
end Go.Proofs.Ytjokcfenncogkaa
