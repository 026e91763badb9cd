/-
  The law's talk as it is driven: one hearing, whatever is under way; an asking's stores. Conditions: where it lies.
-/
import Derived.Test.YtmnepolfiipfcaaTalkH
namespace Go.Proofs.Ytmnepolfiipfcaa
open Go.RowKit
set_option linter.unusedVariables false
set_option linter.unusedSimpArgs false

theorem TAt.up {w w' : World} {B q : Nat} {b : Nat → Nat} {A : Nat → Option Addr} {n c : Nat → Nat} {Y : Nat → List (Int × Int)} {S : Nat → Nat → Nat → Int} {G : Nat → Nat → Nat → Bool} {t : Nat} (h : TAt w B q b A n c Y S G t) (hu : Up w w') : TAt w' B q b A n c Y S G t := by
  obtain ⟨h1, h2, h3, h4, h5, h6, hB⟩ := h.ne
  obtain ⟨kc, kf⟩ := hu.at_ q (by omega)
  have hz := hu.size
  exact { m0 := (kc 0).trans h.m0, m1 := (kc 1).trans h.m1, y0 := ⟨(kc 2).trans h.y0.1, (kf 2).trans h.y0.2⟩, y1 := ⟨(kc 3).trans h.y1.1, (kf 3).trans h.y1.2⟩, tt := ⟨(kc 4).trans h.tt.1, (kf 4).trans h.tt.2⟩,
          at0 := h.at0.up hu (by omega), at1 := h.at1.up hu (by omega), q0 := h.q0.up hu, q1 := h.q1.up hu, ne := ⟨h1, h2, h3, h4, h5, h6, by omega⟩, nq := h.nq }
/-- a talk that keeps the law: a askings, M the words that may still be heard -/
def RunAt (w0 : World) (B q : Nat) (b : Nat → Nat) (G : Nat → Nat → Nat → Bool) (a : Nat) (Z : (Nat → List (Int × Int)) → Prop) (M : Nat) (w : World) : Prop :=
  ∃ (t : Nat) (A : Nat → Option Addr) (n c : Nat → Nat) (Y : Nat → List (Int × Int)) (S : Nat → Nat → Nat → Int) (f : Nat → Nat → Nat), TAt w B q b A n c Y S G t ∧ Ends G S Y f ∧ t + sum8 f ≤ 2 * a ∧ (Y 0).length + (Y 1).length + sum8 f ≤ M ∧ Z Y ∧ Keep (TW B q b) w0 w
theorem RunAt.up {w0 w w' : World} {B q a M : Nat} {b : Nat → Nat} {G : Nat → Nat → Nat → Bool} {Z : (Nat → List (Int × Int)) → Prop} (h : RunAt w0 B q b G a Z M w) (hu : Up w w') : RunAt w0 B q b G a Z M w' := by
  obtain ⟨t, A, n, c, Y, S, f, h1, h2, h3, h4, h5, h6⟩ := h
  exact ⟨t, A, n, c, Y, S, f, h1.up hu, h2, h3, h4, h5, h6.trans (Keep.of_up hu)⟩
theorem RunAt.weak {w0 w : World} {B q a M M' : Nat} {b : Nat → Nat} {G : Nat → Nat → Nat → Bool} {Z Z' : (Nat → List (Int × Int)) → Prop} (h : RunAt w0 B q b G a Z M w) (hM : M ≤ M') (hz : ∀ Y, Z Y → Z' Y) : RunAt w0 B q b G a Z' M' w := by
  obtain ⟨t, A, n, c, Y, S, f, h1, h2, h3, h4, h5, h6⟩ := h
  exact ⟨t, A, n, c, Y, S, f, h1, h2, h3, by omega, hz Y h5, h6⟩
theorem ask_same {S : Nat → Nat → Int} {i k : Nat} {t : Bool} (hi : i < 2) (hK : askK t (S i k) = false) : askS (i : Int) k t S = S := by
  have hs : isSide (i : Int) := by unfold isSide; omega
  unfold askS
  rw [if_pos hs]
  funext i' o'
  simp only [Int.toNat_natCast]
  by_cases h : i' = i ∧ o' = k
  · obtain ⟨rfl, rfl⟩ := h
    rw [if_pos ⟨rfl, rfl⟩]
    cases t
    · simp [askK, askOffK, askN, askOffN] at hK ⊢
      simp [hK]
    · simp [askK, askOnK, askN, askOnN] at hK ⊢
      simp [hK]
  · rw [if_neg h]
theorem tat_start {w : World} {b0 b1 : Nat} {G0 G1 : Nat → Nat → Bool} (h0 : MAt w b0 (fun _ _ => 0) G0) (h1 : MAt w b1 (fun _ _ => 0) G1) (h01 : b0 ≠ b1) (hb0 : b0 < w.heap.size) (hb1 : b1 < w.heap.size) (ty : TypeId) :
    ∃ (b : Nat → Nat) (G : Nat → Nat → Nat → Bool), b 0 = b0 ∧ b 1 = b1 ∧ RunAt (w.alloc (.cells #[.pointer (some ⟨b0, 0, none⟩), .pointer (some ⟨b1, 0, none⟩), .slice none 0 0, .slice none 0 0, .int .i64 0] ty)) (w.heap.size + 1) w.heap.size b G 0 (fun _ => True) 0 (w.alloc (.cells #[.pointer (some ⟨b0, 0, none⟩), .pointer (some ⟨b1, 0, none⟩), .slice none 0 0, .slice none 0 0, .int .i64 0] ty)) := by
  have hu : Up w (w.alloc (.cells #[.pointer (some ⟨b0, 0, none⟩), .pointer (some ⟨b1, 0, none⟩), .slice none 0 0, .slice none 0 0, .int .i64 0] ty)) := (Up.refl w).alloc _
  have hc := fun j => World.cell?_alloc_new w #[.pointer (some ⟨b0, 0, none⟩), .pointer (some ⟨b1, 0, none⟩), .slice none 0 0, .slice none 0 0, .int .i64 0] ty j
  have hf : ∀ j, (w.alloc (.cells #[.pointer (some ⟨b0, 0, none⟩), .pointer (some ⟨b1, 0, none⟩), .slice none 0 0, .slice none 0 0, .int .i64 0] ty)).frozen? ⟨w.heap.size, j, none⟩ = false := fun j => by simp
  have hz : (w.alloc (.cells #[.pointer (some ⟨b0, 0, none⟩), .pointer (some ⟨b1, 0, none⟩), .slice none 0 0, .slice none 0 0, .int .i64 0] ty)).heap.size = w.heap.size + 1 := by simp
  refine ⟨fun e => if e = 0 then b0 else b1, fun e => if e = 0 then G0 else G1, rfl, rfl, 0, fun _ => none, fun _ => 0, fun _ => 0, fun _ => [], fun _ _ _ => 0, fun _ _ => 0, ?_, ends_start _, by simp [sum8], by simp [sum8], trivial, Keep.refl _ _⟩
  exact { m0 := hc 0, m1 := hc 1, y0 := ⟨hc 2, hf 2⟩, y1 := ⟨hc 3, hf 3⟩, tt := ⟨hc 4, hf 4⟩, at0 := h0.up hu hb0, at1 := h1.up hu hb1, q0 := Que.nil _ _, q1 := Que.nil _ _,
          ne := ⟨h01, by show w.heap.size ≠ b0; omega, by show w.heap.size ≠ b1; omega, by omega, by show b0 < _; omega, by show b1 < _; omega, by omega⟩, nq := fun p p' hp => by cases hp }
theorem tat_ask0 {w w4 w5 : World} {B q n5 c6 : Nat} {A6 : Option Addr} {b : Nat → Nat} {A : Nat → Option Addr} {n c : Nat → Nat} {Y : Nat → List (Int × Int)} {S : Nat → Nat → Nat → Int} {G : Nat → Nat → Nat → Bool} {t : Nat} {S' : Nat → Nat → Int} {K : List (Int × Int)} (h : TAt w B q b A n c Y S G t)
    (hm4 : MAt w4 (b 0) S' (G 0)) (hk4 : Keep (fun k => k = b 0) w w4) (hq5 : Que B w5 A6 (n 1 + n5) c6 (Y 1 ++ K)) (hk5 : Keep (fun k => ∃ p, A 1 = some p ∧ k = p.block) w4 w5) (hb5 : ∀ p, A6 = some p → (∃ p', A 1 = some p' ∧ p.block = p'.block) ∨ w4.heap.size ≤ p.block) :
    TAt ((w5.setCell ⟨q, 3, none⟩ (.slice A6 (n 1 + n5) c6)).setCell ⟨q, 4, none⟩ (.int .i64 ((t : Int) + (n5 : Int)))) B q b (set1 A 1 A6) (set1 n 1 (n 1 + n5)) (set1 c 1 c6) (set1 Y 1 (Y 1 ++ K)) (set1 S 0 S') G (t + n5) ∧
    Keep (TW B q b) w ((w5.setCell ⟨q, 3, none⟩ (.slice A6 (n 1 + n5) c6)).setCell ⟨q, 4, none⟩ (.int .i64 ((t : Int) + (n5 : Int)))) := by
  obtain ⟨hne1, hne2, hne3, hqB, hb0, hb1, hBw⟩ := h.ne
  have z4 := hk4.size
  have z5 := hk5.size
  have hAt := h.q1.at_
  have hAE := h.q0.at_
  have hAO : ∀ x, x < B → ¬ ∃ p, A 1 = some p ∧ x = p.block := fun x hx ⟨p, hp, e⟩ => by have := (hAt p hp).1; omega
  obtain ⟨kc4, kf4⟩ := hk4.at_ q (by omega) (by omega)
  obtain ⟨kc5, kf5⟩ := hk5.at_ q (by omega) (hAO q (by omega))
  have c_ := fun j => (kc5 j).trans (kc4 j)
  have f_ := fun j => (kf5 j).trans (kf4 j)
  obtain ⟨s1, s2, s3, s4⟩ := set_q (s := .slice A6 (n 1 + n5) c6) ((c_ 3).trans h.y1.1)
  obtain ⟨r1, r2, r3, r4⟩ := set_q (s := .int .i64 ((t : Int) + (n5 : Int))) ((s2 4 (by omega)).trans ((c_ 4).trans h.tt.1))
  have v_ := fun j (h1 : j ≠ 4) (h2 : j ≠ 3) => (r2 j h1).trans ((s2 j h2).trans (c_ j))
  have vf := fun j => (r3 j).trans ((s3 j).trans (f_ j))
  have kq := s4.trans r4
  have hzf := kq.size
  have hM := (hm4.keepE hk5 (by omega) (hAO _ (by omega))).keepE kq (by omega) (by omega)
  have hMO := ((h.at1.keepE hk4 (by omega) (by omega)).keepE hk5 (by omega) (hAO _ (by omega))).keepE kq (by omega) (by omega)
  have hQE := ((h.q0.keep hk4 (fun p hp e => by have := (hAE p hp).1; omega)).keep hk5 (fun p hp ⟨p', hp', e⟩ => by
    have := h.nq
    first | exact this p p' hp hp' e | exact this p' p hp' hp e.symm)).keep kq (fun p hp e => by have := (hAE p hp).1; omega)
  have hQO := hq5.keep kq (fun p hp e => by have := (hq5.at_ p hp).1; omega)
  refine ⟨?_, ?_⟩
  · exact { m0 := (v_ 0 (by omega) (by omega)).trans h.m0, m1 := (v_ 1 (by omega) (by omega)).trans h.m1, y0 := ⟨by rw [set1_other _ _ (by omega), set1_other _ _ (by omega), set1_other _ _ (by omega)]; exact (v_ 2 (by omega) (by omega)).trans h.y0.1, (vf _).trans h.y0.2⟩,
            y1 := ⟨by rw [set1_same, set1_same, set1_same]; exact (r2 3 (by omega)).trans s1, (vf _).trans h.y1.2⟩, tt := ⟨by rw [r1, Int.natCast_add], (vf _).trans h.tt.2⟩,
            at0 := by rw [set1_same]; exact hM, at1 := by rw [set1_other _ _ (by omega)]; exact hMO,
            q0 := by rw [set1_other _ _ (by omega), set1_other _ _ (by omega), set1_other _ _ (by omega), set1_other _ _ (by omega)]; exact hQE, q1 := by rw [set1_same, set1_same, set1_same, set1_same]; exact hQO, ne := ⟨hne1, hne2, hne3, hqB, hb0, hb1, by omega⟩,
            nq := fun p p' hp hp' e => by
              rw [set1_other _ _ (by omega)] at hp
              rw [set1_same] at hp'
              rcases hb5 _ hp' with ⟨p2, h2, e2⟩ | h2
              · have := h.nq
                first | exact this p p2 hp h2 (by omega) | exact this p2 p' h2 hp' (by omega)
              · have := (hAE _ hp).2
                omega }
  · exact ((hk4.mono (fun k hk => by subst hk; first | exact .inr (.inl rfl) | exact .inr (.inr (.inl rfl)))).trans (hk5.mono (fun k ⟨p, hp, e⟩ => .inr (.inr (.inr (by have := (hAt p hp).1; omega)))))).trans (kq.mono (fun k hk => .inl hk))
theorem run_ask0 {w0 w w4 w5 : World} {B q n5 c6 a M i k : Nat} {ta : Bool} {A6 : Option Addr} {b : Nat → Nat} {A : Nat → Option Addr} {n c : Nat → Nat} {Y : Nat → List (Int × Int)} {S : Nat → Nat → Nat → Int} {G : Nat → Nat → Nat → Bool} {t : Nat} {f : Nat → Nat → Nat} (hi : i < 2) (hk : k < 4)
    (h : TAt w B q b A n c Y S G t) (hE : Ends G S Y f) (ht : t + sum8 f ≤ 2 * a) (hM : (Y 0).length + (Y 1).length + sum8 f ≤ M) (hk0 : Keep (TW B q b) w0 w)
    (hm4 : MAt w4 (b 0) (askS (i : Int) k ta (S 0)) (G 0)) (hk4 : Keep (fun k => k = b 0) w w4) (hn : n5 = (askL (i : Int) k ta (S 0)).length) (hq5 : Que B w5 A6 (n 1 + n5) c6 (Y 1 ++ askL (i : Int) k ta (S 0))) (hk5 : Keep (fun k => ∃ p, A 1 = some p ∧ k = p.block) w4 w5) (hb5 : ∀ p, A6 = some p → (∃ p', A 1 = some p' ∧ p.block = p'.block) ∨ w4.heap.size ≤ p.block) :
    RunAt w0 B q b G (if askE (i : Int) k ta (S 0) = 0 then a + 1 else a) (fun _ => True) (if askE (i : Int) k ta (S 0) = 0 then M + 2 else M) ((w5.setCell ⟨q, 3, none⟩ (.slice A6 (n 1 + n5) c6)).setCell ⟨q, 4, none⟩ (.int .i64 ((t : Int) + (n5 : Int)))) := by
  obtain ⟨h1, h2⟩ := tat_ask0 h hm4 hk4 hq5 hk5 hb5
  have hs : isSide (i : Int) := by unfold isSide; omega
  have hlen : ((set1 Y 1 (Y 1 ++ askL (i : Int) k ta (S 0))) 0).length + ((set1 Y 1 (Y 1 ++ askL (i : Int) k ta (S 0))) 1).length = (Y 0).length + (Y 1).length + n5 := by
    have e1 : (set1 Y 1 (Y 1 ++ askL (i : Int) k ta (S 0))) 0 = Y 0 := set1_other _ _ (by omega)
    have e2 : (set1 Y 1 (Y 1 ++ askL (i : Int) k ta (S 0))) 1 = Y 1 ++ askL (i : Int) k ta (S 0) := set1_same _ _ _
    rw [e1, e2, List.length_append]
    omega
  cases hK : askK ta (S 0 i k) with
  | true =>
    have he : askE (i : Int) k ta (S 0) = 0 := by unfold askE; rw [if_pos hs, Int.toNat_natCast, hK]; rfl
    obtain ⟨f', h3, h4⟩ := ends_ask hE (e := 0) (i := i) (k := k) (t := ta) (by omega) hi hk hK
    rw [if_pos he, if_pos he]
    exact ⟨t + n5, _, _, _, _, _, f', h1, h3, by omega, by omega, trivial, hk0.trans h2⟩
  | false =>
    have he : ¬ askE (i : Int) k ta (S 0) = 0 := by unfold askE; rw [if_pos hs, Int.toNat_natCast, hK]; simp
    have hL : askL (i : Int) k ta (S 0) = [] := ask_none hi hK
    have hS : askS (i : Int) k ta (S 0) = S 0 := ask_same hi hK
    rw [if_neg he, if_neg he]
    rw [hL, hS, List.append_nil] at h1
    rw [hL] at hn hlen
    have hYs : set1 Y 1 (Y 1) = Y := by funext d; unfold set1; split <;> simp_all
    have hSs : set1 S 0 (S 0) = S := by funext d; unfold set1; split <;> simp_all
    rw [hYs, hSs] at h1
    exact ⟨t + n5, _, _, _, _, _, f, h1, hE, by simp at hn; omega, hM, trivial, hk0.trans h2⟩
theorem tat_ask1 {w w4 w5 : World} {B q n5 c6 : Nat} {A6 : Option Addr} {b : Nat → Nat} {A : Nat → Option Addr} {n c : Nat → Nat} {Y : Nat → List (Int × Int)} {S : Nat → Nat → Nat → Int} {G : Nat → Nat → Nat → Bool} {t : Nat} {S' : Nat → Nat → Int} {K : List (Int × Int)} (h : TAt w B q b A n c Y S G t)
    (hm4 : MAt w4 (b 1) S' (G 1)) (hk4 : Keep (fun k => k = b 1) w w4) (hq5 : Que B w5 A6 (n 0 + n5) c6 (Y 0 ++ K)) (hk5 : Keep (fun k => ∃ p, A 0 = some p ∧ k = p.block) w4 w5) (hb5 : ∀ p, A6 = some p → (∃ p', A 0 = some p' ∧ p.block = p'.block) ∨ w4.heap.size ≤ p.block) :
    TAt ((w5.setCell ⟨q, 2, none⟩ (.slice A6 (n 0 + n5) c6)).setCell ⟨q, 4, none⟩ (.int .i64 ((t : Int) + (n5 : Int)))) B q b (set1 A 0 A6) (set1 n 0 (n 0 + n5)) (set1 c 0 c6) (set1 Y 0 (Y 0 ++ K)) (set1 S 1 S') G (t + n5) ∧
    Keep (TW B q b) w ((w5.setCell ⟨q, 2, none⟩ (.slice A6 (n 0 + n5) c6)).setCell ⟨q, 4, none⟩ (.int .i64 ((t : Int) + (n5 : Int)))) := by
  obtain ⟨hne1, hne2, hne3, hqB, hb0, hb1, hBw⟩ := h.ne
  have z4 := hk4.size
  have z5 := hk5.size
  have hAt := h.q0.at_
  have hAE := h.q1.at_
  have hAO : ∀ x, x < B → ¬ ∃ p, A 0 = some p ∧ x = p.block := fun x hx ⟨p, hp, e⟩ => by have := (hAt p hp).1; omega
  obtain ⟨kc4, kf4⟩ := hk4.at_ q (by omega) (by omega)
  obtain ⟨kc5, kf5⟩ := hk5.at_ q (by omega) (hAO q (by omega))
  have c_ := fun j => (kc5 j).trans (kc4 j)
  have f_ := fun j => (kf5 j).trans (kf4 j)
  obtain ⟨s1, s2, s3, s4⟩ := set_q (s := .slice A6 (n 0 + n5) c6) ((c_ 2).trans h.y0.1)
  obtain ⟨r1, r2, r3, r4⟩ := set_q (s := .int .i64 ((t : Int) + (n5 : Int))) ((s2 4 (by omega)).trans ((c_ 4).trans h.tt.1))
  have v_ := fun j (h1 : j ≠ 4) (h2 : j ≠ 2) => (r2 j h1).trans ((s2 j h2).trans (c_ j))
  have vf := fun j => (r3 j).trans ((s3 j).trans (f_ j))
  have kq := s4.trans r4
  have hzf := kq.size
  have hM := (hm4.keepE hk5 (by omega) (hAO _ (by omega))).keepE kq (by omega) (by omega)
  have hMO := ((h.at0.keepE hk4 (by omega) (by omega)).keepE hk5 (by omega) (hAO _ (by omega))).keepE kq (by omega) (by omega)
  have hQE := ((h.q1.keep hk4 (fun p hp e => by have := (hAE p hp).1; omega)).keep hk5 (fun p hp ⟨p', hp', e⟩ => by
    have := h.nq
    first | exact this p p' hp hp' e | exact this p' p hp' hp e.symm)).keep kq (fun p hp e => by have := (hAE p hp).1; omega)
  have hQO := hq5.keep kq (fun p hp e => by have := (hq5.at_ p hp).1; omega)
  refine ⟨?_, ?_⟩
  · exact { m1 := (v_ 1 (by omega) (by omega)).trans h.m1, m0 := (v_ 0 (by omega) (by omega)).trans h.m0, y1 := ⟨by rw [set1_other _ _ (by omega), set1_other _ _ (by omega), set1_other _ _ (by omega)]; exact (v_ 3 (by omega) (by omega)).trans h.y1.1, (vf _).trans h.y1.2⟩,
            y0 := ⟨by rw [set1_same, set1_same, set1_same]; exact (r2 2 (by omega)).trans s1, (vf _).trans h.y0.2⟩, tt := ⟨by rw [r1, Int.natCast_add], (vf _).trans h.tt.2⟩,
            at1 := by rw [set1_same]; exact hM, at0 := by rw [set1_other _ _ (by omega)]; exact hMO,
            q1 := by rw [set1_other _ _ (by omega), set1_other _ _ (by omega), set1_other _ _ (by omega), set1_other _ _ (by omega)]; exact hQE, q0 := by rw [set1_same, set1_same, set1_same, set1_same]; exact hQO, ne := ⟨hne1, hne2, hne3, hqB, hb0, hb1, by omega⟩,
            nq := fun p p' hp hp' e => by
              rw [set1_other _ _ (by omega)] at hp'
              rw [set1_same] at hp
              rcases hb5 _ hp with ⟨p2, h2, e2⟩ | h2
              · have := h.nq
                first | exact this p p2 hp h2 (by omega) | exact this p2 p' h2 hp' (by omega)
              · have := (hAE _ hp').2
                omega }
  · exact ((hk4.mono (fun k hk => by subst hk; first | exact .inr (.inl rfl) | exact .inr (.inr (.inl rfl)))).trans (hk5.mono (fun k ⟨p, hp, e⟩ => .inr (.inr (.inr (by have := (hAt p hp).1; omega)))))).trans (kq.mono (fun k hk => .inl hk))
theorem run_ask1 {w0 w w4 w5 : World} {B q n5 c6 a M i k : Nat} {ta : Bool} {A6 : Option Addr} {b : Nat → Nat} {A : Nat → Option Addr} {n c : Nat → Nat} {Y : Nat → List (Int × Int)} {S : Nat → Nat → Nat → Int} {G : Nat → Nat → Nat → Bool} {t : Nat} {f : Nat → Nat → Nat} (hi : i < 2) (hk : k < 4)
    (h : TAt w B q b A n c Y S G t) (hE : Ends G S Y f) (ht : t + sum8 f ≤ 2 * a) (hM : (Y 0).length + (Y 1).length + sum8 f ≤ M) (hk0 : Keep (TW B q b) w0 w)
    (hm4 : MAt w4 (b 1) (askS (i : Int) k ta (S 1)) (G 1)) (hk4 : Keep (fun k => k = b 1) w w4) (hn : n5 = (askL (i : Int) k ta (S 1)).length) (hq5 : Que B w5 A6 (n 0 + n5) c6 (Y 0 ++ askL (i : Int) k ta (S 1))) (hk5 : Keep (fun k => ∃ p, A 0 = some p ∧ k = p.block) w4 w5) (hb5 : ∀ p, A6 = some p → (∃ p', A 0 = some p' ∧ p.block = p'.block) ∨ w4.heap.size ≤ p.block) :
    RunAt w0 B q b G (if askE (i : Int) k ta (S 1) = 0 then a + 1 else a) (fun _ => True) (if askE (i : Int) k ta (S 1) = 0 then M + 2 else M) ((w5.setCell ⟨q, 2, none⟩ (.slice A6 (n 0 + n5) c6)).setCell ⟨q, 4, none⟩ (.int .i64 ((t : Int) + (n5 : Int)))) := by
  obtain ⟨h1, h2⟩ := tat_ask1 h hm4 hk4 hq5 hk5 hb5
  have hs : isSide (i : Int) := by unfold isSide; omega
  have hlen : ((set1 Y 0 (Y 0 ++ askL (i : Int) k ta (S 1))) 0).length + ((set1 Y 0 (Y 0 ++ askL (i : Int) k ta (S 1))) 1).length = (Y 0).length + (Y 1).length + n5 := by
    have e1 : (set1 Y 0 (Y 0 ++ askL (i : Int) k ta (S 1))) 1 = Y 1 := set1_other _ _ (by omega)
    have e2 : (set1 Y 0 (Y 0 ++ askL (i : Int) k ta (S 1))) 0 = Y 0 ++ askL (i : Int) k ta (S 1) := set1_same _ _ _
    rw [e1, e2, List.length_append]
    omega
  cases hK : askK ta (S 1 i k) with
  | true =>
    have he : askE (i : Int) k ta (S 1) = 0 := by unfold askE; rw [if_pos hs, Int.toNat_natCast, hK]; rfl
    obtain ⟨f', h3, h4⟩ := ends_ask hE (e := 1) (i := i) (k := k) (t := ta) (by omega) hi hk hK
    rw [if_pos he, if_pos he]
    exact ⟨t + n5, _, _, _, _, _, f', h1, h3, by omega, by omega, trivial, hk0.trans h2⟩
  | false =>
    have he : ¬ askE (i : Int) k ta (S 1) = 0 := by unfold askE; rw [if_pos hs, Int.toNat_natCast, hK]; simp
    have hL : askL (i : Int) k ta (S 1) = [] := ask_none hi hK
    have hS : askS (i : Int) k ta (S 1) = S 1 := ask_same hi hK
    rw [if_neg he, if_neg he]
    rw [hL, hS, List.append_nil] at h1
    rw [hL] at hn hlen
    have hYs : set1 Y 0 (Y 0) = Y := by funext d; unfold set1; split <;> simp_all
    have hSs : set1 S 1 (S 1) = S := by funext d; unfold set1; split <;> simp_all
    rw [hYs, hSs] at h1
    exact ⟨t + n5, _, _, _, _, _, f, h1, hE, by simp at hn; omega, hM, trivial, hk0.trans h2⟩
section
variable {w : World} {B q : Nat} {b : Nat → Nat} {A : Nat → Option Addr} {n c : Nat → Nat} {Y : Nat → List (Int × Int)} {S : Nat → Nat → Nat → Int} {G : Nat → Nat → Nat → Bool} {t : Nat}
theorem TAt.m_ (h : TAt w B q b A n c Y S G t) {e : Nat} (he : e < 2) : w.cell? ⟨q, e, none⟩ = some (.pointer (some ⟨b e, 0, none⟩)) ∧ MAt w (b e) (S e) (G e) ∧ b e ≠ q ∧ b e < B := by
  obtain ⟨_, h2, h3, _, h5, h6, _⟩ := h.ne
  rcases (show e = 0 ∨ e = 1 by omega) with rfl | rfl
  · exact ⟨h.m0, h.at0, fun e => h2 e.symm, h5⟩
  · exact ⟨h.m1, h.at1, fun e => h3 e.symm, h6⟩
theorem TAt.y_ (h : TAt w B q b A n c Y S G t) {e : Nat} (he : e < 2) : w.cell? ⟨q, 2 + e, none⟩ = some (.slice (A e) (n e) (c e)) ∧ w.frozen? ⟨q, 2 + e, none⟩ = false ∧ Que B w (A e) (n e) (c e) (Y e) := by
  rcases (show e = 0 ∨ e = 1 by omega) with rfl | rfl
  · exact ⟨h.y0.1, h.y0.2, h.q0⟩
  · exact ⟨h.y1.1, h.y1.2, h.q1⟩
end
theorem run_ask {w0 w w4 w5 : World} {B q n5 c6 a M i k e O : Nat} {ta : Bool} {A6 : Option Addr} {b : Nat → Nat} {A : Nat → Option Addr} {n c : Nat → Nat} {Y : Nat → List (Int × Int)} {S : Nat → Nat → Nat → Int} {G : Nat → Nat → Nat → Bool} {t : Nat} {f : Nat → Nat → Nat} (he : e < 2) (hO : e + O = 1) (hi : i < 2) (hk : k < 4)
    (h : TAt w B q b A n c Y S G t) (hE : Ends G S Y f) (ht : t + sum8 f ≤ 2 * a) (hM : (Y 0).length + (Y 1).length + sum8 f ≤ M) (hk0 : Keep (TW B q b) w0 w)
    (hm4 : MAt w4 (b e) (askS (i : Int) k ta (S e)) (G e)) (hk4 : Keep (fun k => k = b e) w w4) (hn : n5 = (askL (i : Int) k ta (S e)).length) (hq5 : Que B w5 A6 (n O + n5) c6 (Y O ++ askL (i : Int) k ta (S e))) (hk5 : Keep (fun k => ∃ p, A O = some p ∧ k = p.block) w4 w5) (hb5 : ∀ p, A6 = some p → (∃ p', A O = some p' ∧ p.block = p'.block) ∨ w4.heap.size ≤ p.block) :
    RunAt w0 B q b G (if askE (i : Int) k ta (S e) = 0 then a + 1 else a) (fun _ => True) (if askE (i : Int) k ta (S e) = 0 then M + 2 else M) ((w5.setCell ⟨q, 2 + O, none⟩ (.slice A6 (n O + n5) c6)).setCell ⟨q, 4, none⟩ (.int .i64 ((t : Int) + (n5 : Int)))) := by
  rcases (show (e = 0 ∧ O = 1) ∨ (e = 1 ∧ O = 0) by omega) with ⟨rfl, rfl⟩ | ⟨rfl, rfl⟩
  · exact run_ask0 hi hk h hE ht hM hk0 hm4 hk4 hn hq5 hk5 hb5
  · exact run_ask1 hi hk h hE ht hM hk0 hm4 hk4 hn hq5 hk5 hb5
end Go.Proofs.Ytmnepolfiipfcaa
