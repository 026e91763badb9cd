/-
  The law's talk: end 0 hears the eldest word to it. Conditions: where it lies.
-/
import Derived.Test.YtmnepolfiipfcaaTalkH
namespace Go.Proofs.Ytmnepolfiipfcaa
open Go.RowKit
set_option linter.unusedVariables false
set_option linter.unusedSimpArgs false

set_option maxRecDepth 100000 in
set_option maxHeartbeats 6400000 in
theorem hear_one0 {B q k : Nat} {b : Nat → Nat} {A : Nat → Option Addr} {n c : Nat → Nat} {Y : Nat → List (Int × Int)} {S : Nat → Nat → Nat → Int} {G : Nat → Nat → Nat → Bool} {t : Nat} {w : World} {v : Int} {r : List (Int × Int)} (h : TAt w B q b A n c Y S G t) (hY : Y 0 = (v, (k : Int)) :: r) (hv : isVerb v) (hk4 : k < 4) (ht : t ≤ 60000) (hn2 : n 1 ≤ 60000) :
    Calls Try.prog 17 #[.pointer (some ⟨q, 0, none⟩), .int .i64 0] w fun e w' => e = .returned (.bool true) ∧ ∃ A' n' c', TAt w' B q b A' n' c' (set1 (set1 Y 0 r) (1 - 0) (Y (1 - 0) ++ hearL v k (S 0) (G 0))) (set1 S 0 (hearS v k (S 0) (G 0))) G (t + (hearL v k (S 0) (G 0)).length) ∧ Keep (TW B q b) w w' := by
  obtain ⟨i0, hi, hz0, hz1, hz2⟩ := info_parts info_msg
  obtain ⟨hne1, hne2, hne3, hqB, hb0, hb1, hBw⟩ := h.ne
  have hQ := h.q0
  rw [hY] at hQ
  obtain ⟨g, off, m, hA, hnm, hgB, hgw, hc0, hc1, hQr⟩ := hQ.head
  simp only at hc0 hc1
  have hy := h.y0.1
  have hyf := h.y0.2
  rw [hA, hnm] at hy
  have zq := cell_lt hy
  have hmp := h.m0
  obtain ⟨hyo, hyof⟩ := h.y1
  obtain ⟨htt, httf⟩ := h.tt
  have hcle := hQ.2.1
  have hcmx := hQ.2.2.1
  have hcm : (c 0 : Int) ≤ 9223372036854775807 := by simp [maxLen] at hcmx; omega
  have hce : 1 ≤ c 0 := by omega
  have HM := Lib.hid h.at0
  have HMO := Lib.hid h.at1
  have HQO := Lib.hid h.q1
  have HQR := Lib.hid hQr
  have hE : hearE v = 0 := if_pos hv
  have HE := Lib.hid hE
  have HKL := Lib.hid (hearL_len v k (S 0) (G 0))
  have HNQ := Lib.hid (show ∀ p, A 1 = some p → p.block ≠ g from fun p hp e => by
    have := h.nq
    first | exact this p ⟨g, off, none⟩ hp hA e | exact this ⟨g, off, none⟩ p hA hp e.symm)
  have HNB := Lib.hid (show ∀ p, A 1 = some p → B ≤ p.block ∧ p.block < w.heap.size from h.q1.at_)
  have HH := Lib.hid h
  obtain ⟨K, hK⟩ : ∃ K, hearL v k (S 0) (G 0) = K := ⟨_, rfl⟩
  rw [hK] at HKL
  rw [hK]
  obtain ⟨S', hS'⟩ : ∃ S', hearS v k (S 0) (G 0) = S' := ⟨_, rfl⟩
  rw [hS']
  have HHEAR := Lib.hid (fun W (hm : MAt W (b 0) (S 0) (G 0)) (hz : b 0 < W.heap.size) => hear_any (b 0) k v (S 0) (G 0) W hm hz (by omega))
  rw [hK, hS', hE] at HHEAR
  clear h hQ hQr hE hK hS' hv hnm
  have hgq : g ≠ q := by omega
  have hk256 : (k : Int) < 256 := by omega
  by_cases hc1' : c 0 = 1
  · go_enter Try.func17, Try.ntmps17
    go_wp2_with fail
    go_region
    go_wp2_with fail
    have hq2 : Que B w (some ⟨g, off, none⟩) m 0 r := by
      have := HQR.out
      rw [if_pos hc1', hA, hc1'] at this
      exact this
    obtain ⟨f1, f2, f3, f4, f5, f6⟩ := w3_facts (s := (.slice (some ⟨g, off, none⟩) m 0 : Value)) (cs := #[.int .u8 v, .int .u8 (k : Int)]) (t := 37) hy
    obtain ⟨w3, hw3⟩ : ∃ w3, (((w.setCell ⟨q, 2, none⟩ (.slice (some ⟨g, off, none⟩) m 0)).alloc (.cells #[.int .u8 v, .int .u8 (k : Int)] 37)).drew) = w3 := ⟨_, rfl⟩
    rw [hw3] at f1 f2 f3 f4 f5 f6 ⊢
    clear hw3
    have x0 := f6 0
    have x1 := f6 1
    have p0 := (f2 0 (by omega)).trans hmp
    have p1 := (f2 3 (by omega)).trans hyo
    have p2 := (f2 4 (by omega)).trans htt
    have f1f := (f3 2).trans hyf
    have p1f := (f3 3).trans hyof
    have p2f := (f3 4).trans httf
    have pm := (f2 1 (by omega)).trans HH.out.m1
    have HM3 := Lib.hid (HM.out.keepE f4 (by omega) (by omega))
    have HMO3 := Lib.hid (HMO.out.keepE f4 (by omega) (by omega))
    have HQE3 := Lib.hid (hq2.keep f4 (fun p hp e => by cases hp; simp only at e; omega))
    have HQO3 := Lib.hid (HQO.out.keep f4 (fun p hp e => by have := (HNB.out p hp).1; omega))
    have HK3 := Lib.hid f4
    have zq3 : q < w3.heap.size := by omega
    have zx3 : w.heap.size < w3.heap.size := by omega
    clear f2 f3 f4 f6 hq2 hy hyo htt hmp hyf hyof httf
    simp only [List.getElem?_toArray, List.getElem?_cons_zero, List.getElem?_cons_succ] at x0 x1
    have hbw3 : b 0 < w3.drew.heap.size := by show b 0 < w3.heap.size; omega
    go_region_law (go_simp; go_at_call 11; refine (HHEAR.out w3.drew HM3.out.drew hbw3).mono ?_; rintro e w4 ⟨A5, n5, c5, rfl, hn5, hr5, hf5, hm5, hk5⟩; have HN5 := Lib.hid hn5; have HR5 := Lib.hid hr5; have HM5 := Lib.hid hm5; have HK5n := Lib.hid hk5; clear hn5 hr5 hf5 hm5 hk5)
    all_goals
      have hk5 := HK5n.out
      obtain ⟨kc, kf⟩ := hk5.at_ q (show q < w3.drew.heap.size from zq3) (by omega)
      have a0 := (kc 0).trans p0
      have aO := (kc 1).trans pm
      have aE := (kc 2).trans f1
      have a1 := (kc 3).trans p1
      have a2 := (kc 4).trans p2
      have aEf := (kf 2).trans f1f
      have a1f := (kf 3).trans p1f
      have a2f := (kf 4).trans p2f
      have hz4 : w3.heap.size ≤ w4.heap.size := hk5.size
      have HMO5 := Lib.hid (HMO3.out.drew.keepE hk5 (show b 1 < w3.drew.heap.size from by show b 1 < w3.heap.size; omega) (by omega))
      have HQE5 := Lib.hid ((show Que B w3.drew _ _ _ _ from HQE3.out).keep hk5 (fun p hp e => by cases hp; simp only at e; omega))
      have HQO5 := Lib.hid ((show Que B w3.drew _ _ _ _ from HQO3.out).keep hk5 (fun p hp e => by have := (HNB.out p hp).1; omega))
      have HK5 := Lib.hid (show Keep (TW B q b) w w4 from ((HK3.out.mono (fun k hk => .inl hk)).drew).trans (Keep.mono hk5 (fun k hk => by subst hk; first | exact .inr (.inl rfl) | exact .inr (.inr (.inl rfl)))))
      have zq4 : q < w4.heap.size := by omega
      have hn5' : n5 ≤ 1 := by have := HKL.out; have := HN5.out; omega
      have qw1 : IntKind.i64.wrap 1 = 1 := by decide
      have qw0 : IntKind.i64.wrap 0 = 0 := by decide
      have hcmo : (c 1 : Int) ≤ 9223372036854775807 := by have := HQO.out.2.2.1; simp [maxLen] at this; omega
      clear hk5 kc kf p0 p1 p2 pm f1 p1f p2f f1f x0 x1
      go_wp2_with fail
      go_region_law (refine step_que i0 hi hz0 hz1 hz2 Try.underlying30 rfl (.tmp 59) (.tmp 60) rfl B (A 1) A5 (n 1) (c 1) n5 c5 (Y 1) K (by simp [Act.eval, Act.put]) (by simp [Act.eval, Act.put]) (show Que B w4.drew _ _ _ _ from HQO5.out) (show Reads w4.drew w4.drew.heap.size 2 A5 n5 (ms K) from HR5.out) (by omega) (by omega) (show B ≤ w4.drew.heap.size from by show B ≤ w4.heap.size; omega) ?_; intro A6 c6 w5 hq6 hk6 hb6; have HQ6 := Lib.hid hq6; have HK6 := Lib.hid hk6; have HB6 := Lib.hid hb6; obtain ⟨kc, kf⟩ := hk6.at_ q (show q < w4.drew.heap.size from zq4) (fun ⟨p, hp, e⟩ => by have := (HNB.out p hp).1; omega); have u0 := (kc 0).trans a0; have uO := (kc 1).trans aO; have uE := (kc 2).trans aE; have u1 := (kc 3).trans a1; have u2 := (kc 4).trans a2; have uEf := (kf 2).trans aEf; have u1f := (kf 3).trans a1f; have u2f := (kf 4).trans a2f; have zq5 := cell_lt u2; clear hq6 hk6 hb6 kc kf)
      all_goals
        go_wp2_with fail
        go_ret
        obtain ⟨s1, s2, s3, s4⟩ := set_q (s := .slice A6 (n 1 + n5) c6) u1
        obtain ⟨r1, r2, r3, r4⟩ := set_q (s := .int .i64 ((t : Int) + (n5 : Int))) ((s2 4 (by omega)).trans u2)
        have v0 := (r2 0 (by omega)).trans ((s2 0 (by omega)).trans u0)
        have vO := (r2 1 (by omega)).trans ((s2 1 (by omega)).trans uO)
        have vE := (r2 2 (by omega)).trans ((s2 2 (by omega)).trans uE)
        have v1 := (r2 3 (by omega)).trans s1
        have vEf := (r3 2).trans ((s3 2).trans uEf)
        have v1f := (r3 3).trans ((s3 3).trans u1f)
        have v2f := (r3 4).trans ((s3 4).trans u2f)
        have kq := s4.trans r4
        have hz5 : w4.heap.size ≤ w5.heap.size := HK6.out.size
        have hzf := kq.size
        have hAO : ∀ x, x < B → ¬ ∃ p, A 1 = some p ∧ x = p.block := fun x hx ⟨p, hp, e⟩ => by have := (HNB.out p hp).1; omega
        have hM := ((HM5.out.drew.keepE HK6.out (show b 0 < w4.drew.heap.size from by show b 0 < w4.heap.size; omega) (hAO _ (by omega))).keepE kq (by omega) (by omega))
        have hMO := ((HMO5.out.drew.keepE HK6.out (show b 1 < w4.drew.heap.size from by show b 1 < w4.heap.size; omega) (hAO _ (by omega))).keepE kq (by omega) (by omega))
        have hQE := ((show Que B w4.drew _ _ _ _ from HQE5.out).keep HK6.out (fun p hp ⟨p', hp', e⟩ => by cases hp; exact HNQ.out p' hp' e.symm)).keep kq (fun p hp e => by cases hp; simp only at e; omega)
        have hQO := HQ6.out.keep kq (fun p hp e => by have := (HQ6.out.at_ p hp).1; omega)
        have hnk := HN5.out
        have ht5 : ((t : Int) + (n5 : Int)) = ((t + K.length : Nat) : Int) := by omega
        refine ⟨rfl, ⟨fun e => if e = 0 then (some ⟨g, off, none⟩) else A6, fun e => if e = 0 then m else n 1 + n5, fun e => if e = 0 then 0 else c6, ?_⟩, ?_⟩
        · exact { m0 := v0, m1 := vO, y0 := ⟨by simpa using vE, vEf⟩, y1 := ⟨by simpa using v1, v1f⟩, tt := ⟨by rw [← ht5]; exact r1, v2f⟩, at0 := by simpa [set1] using hM, at1 := by simpa [set1] using hMO,
                  q0 := by simpa [set1] using hQE, q1 := by simpa [set1] using hQO, ne := ⟨hne1, hne2, hne3, hqB, hb0, hb1, by omega⟩,
                  nq := fun p p' hp hp' e => by
                    simp at hp hp'
                    subst hp
                    rcases HB6.out _ hp' with ⟨p2, h2, e2⟩ | h2
                    · have := HNQ.out p2 h2
                      simp only at e
                      omega
                    · have h3 : w4.heap.size ≤ _ := h2
                      simp only at e
                      omega }
        · exact (HK5.out.trans (Keep.mono (((Keep.refl (fun k => ∃ p, A 1 = some p ∧ k = p.block) w4).drew).trans HK6.out) (fun k ⟨p, hp, e⟩ => .inr (.inr (.inr (by have := (HNB.out p hp).1; omega)))))).trans (kq.mono (fun k hk => .inl hk))
  · go_enter Try.func17, Try.ntmps17
    go_wp2_with fail
    go_region
    go_wp2_with fail
    have hq2 : Que B w (some ⟨g, off + 2, none⟩) m (c 0 - 1) r := by
      have := HQR.out
      rw [if_neg hc1'] at this
      exact this
    obtain ⟨f1, f2, f3, f4, f5, f6⟩ := w3_facts (s := (.slice (some ⟨g, off + 2, none⟩) m (c 0 - 1) : Value)) (cs := #[.int .u8 v, .int .u8 (k : Int)]) (t := 37) hy
    obtain ⟨w3, hw3⟩ : ∃ w3, (((w.setCell ⟨q, 2, none⟩ (.slice (some ⟨g, off + 2, none⟩) m (c 0 - 1))).alloc (.cells #[.int .u8 v, .int .u8 (k : Int)] 37)).drew) = w3 := ⟨_, rfl⟩
    rw [hw3] at f1 f2 f3 f4 f5 f6 ⊢
    clear hw3
    have x0 := f6 0
    have x1 := f6 1
    have p0 := (f2 0 (by omega)).trans hmp
    have p1 := (f2 3 (by omega)).trans hyo
    have p2 := (f2 4 (by omega)).trans htt
    have f1f := (f3 2).trans hyf
    have p1f := (f3 3).trans hyof
    have p2f := (f3 4).trans httf
    have pm := (f2 1 (by omega)).trans HH.out.m1
    have HM3 := Lib.hid (HM.out.keepE f4 (by omega) (by omega))
    have HMO3 := Lib.hid (HMO.out.keepE f4 (by omega) (by omega))
    have HQE3 := Lib.hid (hq2.keep f4 (fun p hp e => by cases hp; simp only at e; omega))
    have HQO3 := Lib.hid (HQO.out.keep f4 (fun p hp e => by have := (HNB.out p hp).1; omega))
    have HK3 := Lib.hid f4
    have zq3 : q < w3.heap.size := by omega
    have zx3 : w.heap.size < w3.heap.size := by omega
    clear f2 f3 f4 f6 hq2 hy hyo htt hmp hyf hyof httf
    simp only [List.getElem?_toArray, List.getElem?_cons_zero, List.getElem?_cons_succ] at x0 x1
    have hbw3 : b 0 < w3.drew.heap.size := by show b 0 < w3.heap.size; omega
    go_region_law (go_simp; go_at_call 11; refine (HHEAR.out w3.drew HM3.out.drew hbw3).mono ?_; rintro e w4 ⟨A5, n5, c5, rfl, hn5, hr5, hf5, hm5, hk5⟩; have HN5 := Lib.hid hn5; have HR5 := Lib.hid hr5; have HM5 := Lib.hid hm5; have HK5n := Lib.hid hk5; clear hn5 hr5 hf5 hm5 hk5)
    all_goals
      have hk5 := HK5n.out
      obtain ⟨kc, kf⟩ := hk5.at_ q (show q < w3.drew.heap.size from zq3) (by omega)
      have a0 := (kc 0).trans p0
      have aO := (kc 1).trans pm
      have aE := (kc 2).trans f1
      have a1 := (kc 3).trans p1
      have a2 := (kc 4).trans p2
      have aEf := (kf 2).trans f1f
      have a1f := (kf 3).trans p1f
      have a2f := (kf 4).trans p2f
      have hz4 : w3.heap.size ≤ w4.heap.size := hk5.size
      have HMO5 := Lib.hid (HMO3.out.drew.keepE hk5 (show b 1 < w3.drew.heap.size from by show b 1 < w3.heap.size; omega) (by omega))
      have HQE5 := Lib.hid ((show Que B w3.drew _ _ _ _ from HQE3.out).keep hk5 (fun p hp e => by cases hp; simp only at e; omega))
      have HQO5 := Lib.hid ((show Que B w3.drew _ _ _ _ from HQO3.out).keep hk5 (fun p hp e => by have := (HNB.out p hp).1; omega))
      have HK5 := Lib.hid (show Keep (TW B q b) w w4 from ((HK3.out.mono (fun k hk => .inl hk)).drew).trans (Keep.mono hk5 (fun k hk => by subst hk; first | exact .inr (.inl rfl) | exact .inr (.inr (.inl rfl)))))
      have zq4 : q < w4.heap.size := by omega
      have hn5' : n5 ≤ 1 := by have := HKL.out; have := HN5.out; omega
      have qw1 : IntKind.i64.wrap 1 = 1 := by decide
      have qw0 : IntKind.i64.wrap 0 = 0 := by decide
      have hcmo : (c 1 : Int) ≤ 9223372036854775807 := by have := HQO.out.2.2.1; simp [maxLen] at this; omega
      clear hk5 kc kf p0 p1 p2 pm f1 p1f p2f f1f x0 x1
      go_wp2_with fail
      go_region_law (refine step_que i0 hi hz0 hz1 hz2 Try.underlying30 rfl (.tmp 59) (.tmp 60) rfl B (A 1) A5 (n 1) (c 1) n5 c5 (Y 1) K (by simp [Act.eval, Act.put]) (by simp [Act.eval, Act.put]) (show Que B w4.drew _ _ _ _ from HQO5.out) (show Reads w4.drew w4.drew.heap.size 2 A5 n5 (ms K) from HR5.out) (by omega) (by omega) (show B ≤ w4.drew.heap.size from by show B ≤ w4.heap.size; omega) ?_; intro A6 c6 w5 hq6 hk6 hb6; have HQ6 := Lib.hid hq6; have HK6 := Lib.hid hk6; have HB6 := Lib.hid hb6; obtain ⟨kc, kf⟩ := hk6.at_ q (show q < w4.drew.heap.size from zq4) (fun ⟨p, hp, e⟩ => by have := (HNB.out p hp).1; omega); have u0 := (kc 0).trans a0; have uO := (kc 1).trans aO; have uE := (kc 2).trans aE; have u1 := (kc 3).trans a1; have u2 := (kc 4).trans a2; have uEf := (kf 2).trans aEf; have u1f := (kf 3).trans a1f; have u2f := (kf 4).trans a2f; have zq5 := cell_lt u2; clear hq6 hk6 hb6 kc kf)
      all_goals
        go_wp2_with fail
        go_ret
        obtain ⟨s1, s2, s3, s4⟩ := set_q (s := .slice A6 (n 1 + n5) c6) u1
        obtain ⟨r1, r2, r3, r4⟩ := set_q (s := .int .i64 ((t : Int) + (n5 : Int))) ((s2 4 (by omega)).trans u2)
        have v0 := (r2 0 (by omega)).trans ((s2 0 (by omega)).trans u0)
        have vO := (r2 1 (by omega)).trans ((s2 1 (by omega)).trans uO)
        have vE := (r2 2 (by omega)).trans ((s2 2 (by omega)).trans uE)
        have v1 := (r2 3 (by omega)).trans s1
        have vEf := (r3 2).trans ((s3 2).trans uEf)
        have v1f := (r3 3).trans ((s3 3).trans u1f)
        have v2f := (r3 4).trans ((s3 4).trans u2f)
        have kq := s4.trans r4
        have hz5 : w4.heap.size ≤ w5.heap.size := HK6.out.size
        have hzf := kq.size
        have hAO : ∀ x, x < B → ¬ ∃ p, A 1 = some p ∧ x = p.block := fun x hx ⟨p, hp, e⟩ => by have := (HNB.out p hp).1; omega
        have hM := ((HM5.out.drew.keepE HK6.out (show b 0 < w4.drew.heap.size from by show b 0 < w4.heap.size; omega) (hAO _ (by omega))).keepE kq (by omega) (by omega))
        have hMO := ((HMO5.out.drew.keepE HK6.out (show b 1 < w4.drew.heap.size from by show b 1 < w4.heap.size; omega) (hAO _ (by omega))).keepE kq (by omega) (by omega))
        have hQE := ((show Que B w4.drew _ _ _ _ from HQE5.out).keep HK6.out (fun p hp ⟨p', hp', e⟩ => by cases hp; exact HNQ.out p' hp' e.symm)).keep kq (fun p hp e => by cases hp; simp only at e; omega)
        have hQO := HQ6.out.keep kq (fun p hp e => by have := (HQ6.out.at_ p hp).1; omega)
        have hnk := HN5.out
        have ht5 : ((t : Int) + (n5 : Int)) = ((t + K.length : Nat) : Int) := by omega
        refine ⟨rfl, ⟨fun e => if e = 0 then (some ⟨g, off + 2, none⟩) else A6, fun e => if e = 0 then m else n 1 + n5, fun e => if e = 0 then (c 0 - 1) else c6, ?_⟩, ?_⟩
        · exact { m0 := v0, m1 := vO, y0 := ⟨by simpa using vE, vEf⟩, y1 := ⟨by simpa using v1, v1f⟩, tt := ⟨by rw [← ht5]; exact r1, v2f⟩, at0 := by simpa [set1] using hM, at1 := by simpa [set1] using hMO,
                  q0 := by simpa [set1] using hQE, q1 := by simpa [set1] using hQO, ne := ⟨hne1, hne2, hne3, hqB, hb0, hb1, by omega⟩,
                  nq := fun p p' hp hp' e => by
                    simp at hp hp'
                    subst hp
                    rcases HB6.out _ hp' with ⟨p2, h2, e2⟩ | h2
                    · have := HNQ.out p2 h2
                      simp only at e
                      omega
                    · have h3 : w4.heap.size ≤ _ := h2
                      simp only at e
                      omega }
        · exact (HK5.out.trans (Keep.mono (((Keep.refl (fun k => ∃ p, A 1 = some p ∧ k = p.block) w4).drew).trans HK6.out) (fun k ⟨p, hp, e⟩ => .inr (.inr (.inr (by have := (HNB.out p hp).1; omega)))))).trans (kq.mono (fun k hk => .inl hk))
end Go.Proofs.Ytmnepolfiipfcaa
