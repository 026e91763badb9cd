/-
  Words under way: a slice whose head goes on; another one is put behind it. No condition.
-/
import Derived.Test.YtmnepolfiipfcaaOpt6
import Derived.ArgAppend
namespace Go.Proofs.Ytmnepolfiipfcaa
open Go.RowKit
set_option linter.unusedVariables false
set_option linter.unusedSimpArgs false

theorem info_msg : (Try.prog.info? 37).map (fun i => (i.zero, i.size, i.bytes)) = some (some (.agg #[.int .u8 0, .int .u8 0]), 2, 2) := by kernel_rfl
theorem ms_len (L : List (Int × Int)) : (ms L).length = L.length * 2 := by
  induction L with
  | nil => rfl
  | cons a r ih => simp only [ms, List.flatMap_cons, List.length_append, List.length_cons, List.length_nil] at ih ⊢; omega
theorem ms_append (L K : List (Int × Int)) : ms (L ++ K) = ms L ++ ms K := by simp [ms]
theorem ms_cons (x : Int × Int) (K : List (Int × Int)) : ms (x :: K) = .int .u8 x.1 :: .int .u8 x.2 :: ms K := by simp [ms]
theorem ms_one (L : List (Int × Int)) : ∀ u ∈ ms L, u.oneCell' = true := by
  intro u hu
  simp only [ms, List.mem_flatMap] at hu
  obtain ⟨x, _, hx⟩ := hu
  simp at hx
  rcases hx with rfl | rfl <;> rfl
/-- the words L lie in a slice that is nobody else's; what is behind them is free -/
def Que (B : Nat) (w : World) (A : Option Addr) (n c : Nat) (L : List (Int × Int)) : Prop := L.length = n ∧ n ≤ c ∧ c ≤ maxLen ∧
  ((A = none ∧ c = 0) ∨ ∃ g off, A = some ⟨g, off, none⟩ ∧ B ≤ g ∧ g < w.heap.size ∧ (∀ j u, (ms L)[j]? = some u → w.cell? ⟨g, off + j, none⟩ = some u) ∧ ∀ j, j < c * 2 → (w.cell? ⟨g, off + j, none⟩).isSome = true ∧ w.frozen? ⟨g, off + j, none⟩ = false)
theorem Que.nil (B : Nat) (w : World) : Que B w none 0 0 [] := ⟨rfl, Nat.le_refl _, by simp [maxLen], .inl ⟨rfl, rfl⟩⟩
section
variable {B : Nat} {w w' : World} {A : Option Addr} {n c : Nat} {L : List (Int × Int)}
theorem Que.keep {E : Nat → Prop} (h : Que B w A n c L) (hk : Keep E w w') (he : ∀ p, A = some p → ¬ E p.block) : Que B w' A n c L := by
  obtain ⟨h1, h2, h3, h4⟩ := h
  refine ⟨h1, h2, h3, ?_⟩
  rcases h4 with h4 | ⟨g, off, rfl, hB, hg, hc, hs⟩
  · exact .inl h4
  · obtain ⟨kc, kf⟩ := hk.at_ g hg (he _ rfl)
    exact .inr ⟨g, off, rfl, hB, by have := hk.size; omega, fun j u hu => (kc _).trans (hc j u hu), fun j hj => by rw [kc, kf]; exact hs j hj⟩
theorem Que.up (h : Que B w A n c L) (hu : Up w w') : Que B w' A n c L := h.keep (E := fun _ => False) (Keep.of_up hu) (fun _ _ h => h)
theorem Que.far (h : Que B w A n c L) {p : Addr} (hp : p.block < B) (u : Value) : Que B (w.setCell p u) A n c L := h.keep (E := fun k => k = p.block) ((Keep.refl (fun k => k = p.block) w).setCell (p := p) (.inl rfl) u) (fun q hq e => by
  obtain ⟨_, _, _, h4⟩ := h
  rcases h4 with ⟨h4, _⟩ | ⟨g, off, h4, hB, _⟩
  · rw [h4] at hq; cases hq
  · rw [h4] at hq; cases hq; simp only at e; omega)
theorem Que.at_ (h : Que B w A n c L) : ∀ p, A = some p → B ≤ p.block ∧ p.block < w.heap.size := by
  intro p hp
  obtain ⟨_, _, _, h4⟩ := h
  rcases h4 with ⟨h4, _⟩ | ⟨g, off, h4, hB, hg, _⟩
  · rw [h4] at hp; cases hp
  · rw [h4] at hp; cases hp; exact ⟨hB, hg⟩
theorem Que.head {x : Int × Int} (h : Que B w A n c (x :: L)) : ∃ g off m, A = some ⟨g, off, none⟩ ∧ n = m + 1 ∧ B ≤ g ∧ g < w.heap.size ∧ w.cell? ⟨g, off, none⟩ = some (.int .u8 x.1) ∧ w.cell? ⟨g, off + 1, none⟩ = some (.int .u8 x.2) ∧
    Que B w (if c = 1 then A else some ⟨g, off + 2, none⟩) m (c - 1) L := by
  obtain ⟨h1, h2, h3, h4⟩ := h
  simp only [List.length_cons] at h1
  rcases h4 with ⟨_, h4⟩ | ⟨g, off, rfl, hB, hg, hc, hs⟩
  · omega
  · refine ⟨g, off, L.length, rfl, h1.symm, hB, hg, hc 0 _ (by rw [ms_cons]; rfl), hc 1 _ (by rw [ms_cons]; rfl), rfl, by omega, by omega, .inr ?_⟩
    by_cases hc1 : c = 1
    · subst hc1
      rw [if_pos rfl]
      have : L = [] := List.eq_nil_of_length_eq_zero (by omega)
      subst this
      exact ⟨g, off, rfl, hB, hg, fun j u hu => by simp [ms] at hu, fun j hj => by omega⟩
    · rw [if_neg hc1]
      exact ⟨g, off + 2, rfl, hB, hg, fun j u hu => by
        have := hc (j + 2) u (by rw [ms_cons]; simpa using hu)
        rwa [show off + 2 + j = off + (j + 2) by omega], fun j hj => by
        have := hs (j + 2) (by omega)
        rwa [show off + 2 + j = off + (j + 2) by omega]⟩
theorem que_own {e : TypeId} (hn : L.length = n) (h : w.ownsRow B e 2 (.slice A n c) n (ms L)) : Que B w A n c L := by
  obtain ⟨A0, c0, e0, hle, hmx⟩ := own_form h
  injection e0 with e1 _ e2
  subst e1; subst e2
  refine ⟨hn, hle, hmx, ?_⟩
  rcases h.2 with ⟨e1, _⟩ | ⟨g, cap, cur, e1, h6, h7, h8, h9, h10, h11⟩
  · injection e1 with e1 _ e2
    exact .inl ⟨e1, e2⟩
  · injection e1 with e1 _ e2
    subst e1; subst e2
    refine .inr ⟨g, 0, rfl, h6, (Array.getElem?_eq_some_iff.1 h7).1, fun j u hu => ?_, fun j hj => ⟨?_, ?_⟩⟩
    · have hr : Reads w w.heap.size 2 (some ⟨g, 0, none⟩) n (ms L) := Reads.of_own h
      obtain ⟨b, off, e, _, hc⟩ := hr.2 (by
        have := (List.getElem?_eq_some_iff.1 hu).1
        rw [ms_len] at this; omega)
      injection e with e
      injection e with e1 e2 _
      subst e1; subst e2
      exact hc j u hu
    · simp only [World.cell?, h7]
      simp
      omega
    · simp only [World.frozen?, h7]
      simp
end
theorem set_two {w : World} {g p c off : Nat} {x y : Value} (hs : ∀ j, j < c → (w.cell? ⟨g, off + j, none⟩).isSome = true ∧ w.frozen? ⟨g, off + j, none⟩ = false) (hp : p + 2 ≤ c) :
    let w' := (w.setCell ⟨g, off + p, none⟩ x).setCell ⟨g, off + (p + 1), none⟩ y
    (∀ j, j < p → w'.cell? ⟨g, off + j, none⟩ = w.cell? ⟨g, off + j, none⟩) ∧ w'.cell? ⟨g, off + p, none⟩ = some x ∧ w'.cell? ⟨g, off + (p + 1), none⟩ = some y ∧ ∀ j, j < c → (w'.cell? ⟨g, off + j, none⟩).isSome = true ∧ w'.frozen? ⟨g, off + j, none⟩ = false := by
  intro w'
  have hne : ∀ {a b : Nat}, a ≠ b → (⟨g, off + a, none⟩ : Addr) ≠ ⟨g, off + b, none⟩ := fun {a b} h e => by injection e with _ e; omega
  obtain ⟨u, hu⟩ := Option.isSome_iff_exists.1 (hs p (by omega)).1
  obtain ⟨v, hv⟩ := Option.isSome_iff_exists.1 (hs (p + 1) (by omega)).1
  have hv' : (w.setCell ⟨g, off + p, none⟩ x).cell? ⟨g, off + (p + 1), none⟩ = some v := by rw [World.cell?_setCell_other (h := hne (by omega))]; exact hv
  have h1 : w'.cell? ⟨g, off + p, none⟩ = some x := by
    show ((w.setCell _ x).setCell _ y).cell? _ = _
    rw [World.cell?_setCell_other (h := hne (by omega))]
    exact World.cell?_setCell_same (h := hu) ..
  have h2 : w'.cell? ⟨g, off + (p + 1), none⟩ = some y := World.cell?_setCell_same (h := hv') ..
  have h3 : ∀ j, j ≠ p → j ≠ p + 1 → w'.cell? ⟨g, off + j, none⟩ = w.cell? ⟨g, off + j, none⟩ := fun j ha hb => by
    show ((w.setCell _ x).setCell _ y).cell? _ = _
    rw [World.cell?_setCell_other (h := hne (Ne.symm hb)), World.cell?_setCell_other (h := hne (Ne.symm ha))]
  refine ⟨fun j hj => h3 j (by omega) (by omega), h1, h2, fun j hj => ⟨?_, ?_⟩⟩
  · by_cases ha : j = p
    · rw [ha, h1]; rfl
    · by_cases hb : j = p + 1
      · rw [hb, h2]; rfl
      · rw [h3 j ha hb]; exact (hs j hj).1
  · show ((w.setCell _ x).setCell _ y).frozen? _ = _
    rw [World.frozen?_setCell, World.frozen?_setCell]
    exact (hs j hj).2
section
variable {P : Program}
theorem run_que {w : World} (i0 : TypeInfo) (hi : P.info? 37 = some i0) (hz0 : i0.zero = some (.agg #[.int .u8 0, .int .u8 0])) (hz1 : i0.size = 2) (hz2 : i0.bytes = 2) (hP : P.underlying 30 = some (.slice 37)) (ty : TypeId)
    (B : Nat) (A Ax : Option Addr) (n c m cx : Nat) (L K : List (Int × Int)) (hq : Que B w A n c L) (hr : Reads w w.heap.size 2 Ax m (ms K)) (hm : m ≤ 1) (hn : n + m ≤ 65535) (hB : B ≤ w.heap.size) :
    ∃ A' c' w', (Builtin.append_ #[30, 30] ty #[.slice A n c, .slice Ax m cx]).run P w = .ok (.slice A' (n + m) c') w' ∧ Que B w' A' (n + m) c' (L ++ K) ∧ Keep (fun k => ∃ p, A = some p ∧ k = p.block) w w' ∧
      (∀ p, A' = some p → (∃ p', A = some p' ∧ p.block = p'.block) ∨ w.heap.size ≤ p.block) := by
  have hkl : K.length = m := by have := hr.1; rw [ms_len] at this; omega
  obtain ⟨h1, h2, h3, h4⟩ := hq
  have low : ∀ {w' : World} {Ab : Option Addr} {nb cb : Nat} {M : List (Int × Int)}, Que w.heap.size w' Ab nb cb M → Que B w' Ab nb cb M := by
    intro w' Ab nb cb M ⟨q1, q2, q3, q4⟩
    refine ⟨q1, q2, q3, ?_⟩
    rcases q4 with q4 | ⟨g', off', e1, e2, e3⟩
    · exact .inl q4
    · exact .inr ⟨g', off', e1, by omega, e3⟩
  rcases h4 with ⟨rfl, rfl⟩ | ⟨g, off, rfl, hB', hg, hc, hsp⟩
  · obtain rfl : n = 0 := by omega
    obtain rfl : L = [] := List.eq_nil_of_length_eq_zero h1
    obtain ⟨A', c', w', hr', ho', hg', hle, hmx, hbl⟩ := run_app (P := P) w w.heap.size 30 ty 37 i0 _ 2 2 hP hi hz0 hz1 hz2 rfl (by decide) none 0 0 [] ⟨rfl, .inl ⟨rfl, rfl⟩⟩ w.heap.size Ax m cx (ms K) hr (ms_one K) (by simp [maxLen]; omega) (by omega) (Nat.le_refl _)
    have hq' := que_own (by simp [hkl]) ho'
    exact ⟨A', c', w', hr', low hq', Keep.of_up ((Up.refl w).grown hg' (fun g h => by simp [Value.ownBlock] at h)), fun p hp => .inr (hq'.at_ p hp).1⟩
  · cases Ax with
    | none =>
      have hm : m = 0 := by
        rcases Nat.eq_zero_or_pos m with h0 | h0
        · exact h0
        · obtain ⟨_, _, h, _⟩ := hr.2 h0
          cases h
      subst hm
      obtain rfl : K = [] := List.eq_nil_of_length_eq_zero hkl
      have hrun : (Builtin.append_ #[30, 30] ty #[.slice (some ⟨g, off, none⟩) n c, .slice none 0 cx]).run P w = .ok (.slice (some ⟨g, off, none⟩) (n + 0) c) w := by
        simp [Builtin.append_, run_underlying hP, sizeOf, typeInfo, hi, Builtin.lenOf, Builtin.firstCells, h2, storeCells]
      exact ⟨_, _, w, hrun, by rw [List.append_nil]; exact ⟨h1, h2, h3, .inr ⟨g, off, rfl, hB', hg, hc, hsp⟩⟩, Keep.refl _ _, fun p hp => .inl ⟨_, rfl, by cases hp; rfl⟩⟩
    | some ad =>
      have hcells : ∀ j u, (ms K)[j]? = some u → w.cell? (ad.add j) = some u := by
        intro j u hu
        rcases Nat.eq_zero_or_pos m with h0 | h0
        · subst h0
          obtain rfl : K = [] := List.eq_nil_of_length_eq_zero hkl
          simp [ms] at hu
        · obtain ⟨b, off, h, _, hc⟩ := hr.2 h0
          injection h with h
          subst h
          rw [at_add]
          exact hc j u hu
      have hlm : (ms L).length = n * 2 := by rw [ms_len, h1]
      have hkm : (ms K).length = m * 2 := by rw [ms_len, hkl]
      by_cases hroom : n + m ≤ c
      · have hrun := run_append_room_cells (P := P) w 30 ty 37 i0 hP hi g off n c ad m cx (ms K) (by rw [hkm, hz1]) hcells (ms_one K) hroom (fun j hj => by
            rw [hkm] at hj
            have := (hsp (n * 2 + j) (by omega)).1
            rw [hz1]
            rwa [← Nat.add_assoc] at this) (fun j hj => by
            rw [hkm] at hj
            have := (hsp (n * 2 + j) (by omega)).2
            rw [hz1]
            rwa [← Nat.add_assoc] at this)
        rw [hz1] at hrun
        refine ⟨_, _, _, hrun, ?_⟩
        rcases Nat.eq_zero_or_pos m with h0 | h0
        · subst h0
          obtain rfl : K = [] := List.eq_nil_of_length_eq_zero hkl
          exact ⟨by rw [List.append_nil]; exact ⟨h1, h2, h3, .inr ⟨g, off, rfl, hB', hg, hc, hsp⟩⟩, Keep.refl _ _, fun p hp => .inl ⟨_, rfl, by cases hp; rfl⟩⟩
        · obtain rfl : m = 1 := by omega
          match K, hkl with
          | [x], _ =>
            obtain ⟨s1, s2, s3, s4⟩ := set_two (x := .int .u8 x.1) (y := .int .u8 x.2) hsp (show n * 2 + 2 ≤ c * 2 by omega)
            have ew : w.setCells g (off + n * 2) (ms [x]) = (w.setCell ⟨g, off + n * 2, none⟩ (.int .u8 x.1)).setCell ⟨g, off + (n * 2 + 1), none⟩ (.int .u8 x.2) := rfl
            rw [ew]
            have hk : Keep (fun k => k = g) w ((w.setCell ⟨g, off + n * 2, none⟩ (.int .u8 x.1)).setCell ⟨g, off + (n * 2 + 1), none⟩ (.int .u8 x.2)) := ((Keep.refl (fun k => k = g) w).setCell (p := ⟨g, off + n * 2, none⟩) (.inl rfl) _).setCell (p := ⟨g, off + (n * 2 + 1), none⟩) (.inl rfl) _
            refine ⟨⟨by simp [h1], hroom, h3, .inr ⟨g, off, rfl, hB', by have := hk.size; omega, fun j u hu => ?_, s4⟩⟩, hk.mono (fun k hk => ⟨_, rfl, hk⟩), fun p hp => .inl ⟨_, rfl, by cases hp; rfl⟩⟩
            rw [ms_append] at hu
            by_cases hj : j < n * 2
            · rw [List.getElem?_append_left (by omega)] at hu
              rw [s1 j hj]
              exact hc j u hu
            · rw [List.getElem?_append_right (by omega), hlm] at hu
              by_cases hj0 : j = n * 2
              · subst hj0
                rw [Nat.sub_self] at hu
                cases hu
                exact s2
              · have hj1 : j = n * 2 + 1 := by
                  have := (List.getElem?_eq_some_iff.1 hu).1
                  simp [ms] at this
                  omega
                subst hj1
                rw [show n * 2 + 1 - n * 2 = 1 by omega] at hu
                cases hu
                exact s3
      · obtain ⟨v', w', hrun, ho', hg'⟩ := run_append_arg_grows (P := P) w 30 ty 37 i0 _ 2 2 hP hi hz0 hz1 hz2 rfl (by omega) ⟨g, off, none⟩ n c (ms L) hlm (fun j u hu => by rw [at_add]; exact hc j u hu) ad m cx (ms K) hkm hcells (by omega) (by simp [maxLen]; omega) (by omega)
        obtain ⟨Ab, cb, rfl, k1, k2⟩ := own_form ho'
        rw [← ms_append] at ho'
        have hq' := que_own (by simp [h1, hkl]) ho'
        exact ⟨Ab, cb, w', hrun, low hq', Keep.of_up ((Up.refl w).grown hg' (fun g h => by cases h)), fun p hp => .inr (hq'.at_ p hp).1⟩
theorem step_que {ops : Array Oper} {o : Oper} {a : Act} {w : World} {K' : Act → World → Prop} {Q : Exit → Act → World → Prop} {E : Prop} (i0 : TypeInfo) (hi : P.info? 37 = some i0) (hz0 : i0.zero = some (.agg #[.int .u8 0, .int .u8 0])) (hz1 : i0.size = 2) (hz2 : i0.bytes = 2) (hP : P.underlying 30 = some (.slice 37))
    (hgd : o.guard = none) (s x : Operand) (ho : o.op = .call { callee := .builtin .append, args := #[s, x], argTypes := #[30, 30] })
    (B : Nat) (A Ax : Option Addr) (n c m cx : Nat) (L K : List (Int × Int)) (hs : a.eval s = .slice A n c) (hx : a.eval x = .slice Ax m cx)
    (hq : Que B w A n c L) (hr : Reads w w.heap.size 2 Ax m (ms K)) (hm : m ≤ 1) (hn : n + m ≤ 65535) (hB : B ≤ w.heap.size)
    (h : ∀ A' c' w', Que B w' A' (n + m) c' (L ++ K) → Keep (fun k => ∃ p, A = some p ∧ k = p.block) w w' → (∀ p, A' = some p → (∃ p', A = some p' ∧ p.block = p'.block) ∨ w.heap.size ≤ p.block) → K' (a.put o.dst (.slice A' (n + m) c')) w') :
    if Region.wanted o (yielded ops a.tmps) = true then Oper.wp P o a w K' Q else E := by
  have hw : Region.wanted o (yielded ops a.tmps) = true := by simp [Region.wanted, hgd]
  rw [if_pos hw]
  obtain ⟨A', c', w', hr', h2, h3, h4⟩ := run_que (P := P) i0 hi hz0 hz1 hz2 hP o.type B A Ax n c m cx L K hq hr hm hn hB
  unfold Oper.wp execOp
  simp only [ho, resolve, invoke, builtin, Sem.run_bind, Sem.run_pure, Result.andThen_ok, List.map_toArray, List.map_cons, List.map_nil, hs, hx, hr']
  exact h A' c' w' h2 h3 h4
end
end Go.Proofs.Ytmnepolfiipfcaa
