/-
  page's Text of codes: the signs' bytes. Conditions: where the page and the codes lie.
-/
import Derived.Test.YthdoighlfoinaaaPage8
import Derived.Test.YthdoighlfoinaaaStrB
import Derived.Test.YthdoighlfoinaaaBytes
namespace Go.Proofs.Ythdoighlfoinaaa
open Go.RowKit Go.Maps
set_option linter.unusedVariables false
set_option linter.unusedSimpArgs false

/-- the text of codes: its bytes -/
def txt (k : Int) (l : List Int) : List UInt8 := l.flatMap fun c => Lib.encodeRune (signN k c.toNat)
theorem txt_snoc (k : Int) (l : List Int) (c : Int) : txt k (l ++ [c]) = txt k l ++ Lib.encodeRune (signN k c.toNat) := by simp [txt]
theorem encodeRune_len (r : Int) : (Lib.encodeRune r).length ≤ 4 := by rw [← Lib.runeCells_length]; exact (Lib.runeCells_le r).2
theorem txt_len (k : Int) : ∀ l : List Int, (txt k l).length ≤ 4 * l.length
  | [] => by simp [txt]
  | c :: l => by
    have := txt_len k l
    have h := encodeRune_len (signN k c.toNat)
    simp only [txt, List.flatMap_cons, List.length_append, List.length_cons] at this ⊢
    omega
section
variable {T e : TypeId} {B bb : Nat} {p : Value} {bs' : List Value} {w w' : World}
theorem builder_lt (h : Lib.IsBuilderF T e B bb bs' w) : B ≤ bb ∧ ∃ p v, w.heap[bb]? = some (.cells #[p, v] T (0, 0)) := by
  rcases h with ⟨h1, v, h2, _⟩ | ⟨h1, v, h2, _⟩
  · exact ⟨h1, _, v, h2⟩
  · exact ⟨h1, _, v, h2⟩
theorem builderAt_near (h : Lib.BuilderAtF T e B bb p bs' w) {b : Nat} (hk : Near b w w') (hb : b < B) : Lib.BuilderAtF T e B bb p bs' w' := by
  obtain ⟨h1, v, h2, ⟨h3, h4⟩, h5⟩ := h
  have hs : ∀ {g : Nat} {o : Obj}, B ≤ g → w.heap[g]? = some o → w'.heap[g]? = some o := fun {g o} hg ho => (hk.block g (Array.getElem?_eq_some_iff.1 ho).1 (by omega)).trans ho
  refine ⟨h1, v, hs h1 h2, ⟨h3, ?_⟩, h5⟩
  rcases h4 with h4 | ⟨g, cap, cur, fz, e1, hbg, hg, rest⟩
  · exact .inl h4
  · exact .inr ⟨g, cap, cur, fz, e1, hbg, hs hbg hg, rest⟩
theorem builder_near (h : Lib.IsBuilderF T e B bb bs' w) {b : Nat} (hk : Near b w w') (hb : b < B) : Lib.IsBuilderF T e B bb bs' w' :=
  h.elim (fun x => .inl (builderAt_near x hk hb)) (fun x => .inr (builderAt_near x hk hb))
end
theorem PAt.others {w w' : World} {b bb B : Nat} {k : Int} {e : TypeId} {p v : Value} {T : TypeId} (h : PAt w b k) (hb : b < B) (hbb : w.heap[bb]? = some (.cells #[p, v] T (0, 0))) (h1 : Below B w w') (h2 : Lib.OthersKept e (some bb) w w') : PAt w' b k := by
  rcases h with h | ⟨m, hm, h, hmp⟩
  · exact .inl (h.of_block (h1.block b hb) h1.size)
  · refine .inr ⟨m, hm, h.of_block (h1.block b hb) h1.size, ?_⟩
    obtain ⟨es, clock, hbk, r⟩ := hmp
    refine ⟨es, clock, h2 m _ hbk ?_ ?_, r⟩
    · intro hx
      injection hx with hx
      subst hx
      rw [hbb] at hbk
      cases hbk
    · intro c fz hx
      cases hx
theorem near_below {b : Nat} {w W W' : World} (h : Near b w W) (h1 : Below w.heap.size W W') : Near b w W' := Keep.far h h1
theorem reads_bs {w : World} {B n : Nat} {b off : Nat} {l : List Int} (h : Reads w B 1 (some ⟨b, off, none⟩) n (bs l)) (i : Nat) (hi : i < n) : ∃ x, l[i]? = some x ∧ w.cell? ⟨b, off + i, none⟩ = some (.int .u8 x) ∧ b < B := by
  have hl : l.length = n := by have := h.1; simp [bs] at this; omega
  obtain ⟨b', off', e, hb, hc⟩ := h.2 (by omega)
  injection e with e
  injection e with e1 e2 _
  subst e1; subst e2
  have hx : l[i]? = some l[i] := List.getElem?_eq_getElem (by omega)
  exact ⟨l[i], hx, hc i _ (by simp [bs, hx]), hb⟩
set_option maxRecDepth 100000 in
set_option maxHeartbeats 3200000 in
theorem text_is (b : Nat) (k : Int) (hk : isPage k = true) {A : Option Addr} {n cap : Nat} {l : List Int} (w : World) (h : PAt w b k) (hr : Reads w w.heap.size 1 A n (bs l)) (hl : ∀ x ∈ l, 0 ≤ x ∧ x ≤ 255) (hn : n ≤ 65536) (hne : ∀ p, A = some p → p.block ≠ b) :
    Calls Try.prog 40 #[.pointer (some ⟨b, 0, none⟩), .slice A n cap] w fun e w' => e = .returned (.string ⟨(txt k l).toArray⟩) ∧ PAt w' b k ∧ Near b w w' := by
  have hll : l.length = n := by have := hr.1; simp [bs] at this; omega
  have hb := h.lt
  have HR := Lib.hid hr
  have HL := Lib.hid hl
  have HLL := Lib.hid hll
  clear hr hl hll
  go_enter Try.func40, Try.ntmps40
  go_wp2_with fail
  go_loopw [12] (fun i wr => ∃ j : Nat, j ≤ n ∧ i = .int .i64 (j : Int) ∧ Lib.IsBuilderF 95 5 w.heap.size w.heap.size (Lib.byteCells (txt k (l.take j))) wr ∧ PAt wr b k ∧ Near b w wr) (fun i _ => n - (intOf i).toNat)
  case atStart =>
    refine ⟨0, by omega, rfl, ?_, h.up ((Up.refl w).alloc _), Keep.of_up ((Up.refl w).alloc _)⟩
    simpa [txt, Lib.byteCells] using Lib.IsBuilderF.of (Lib.fresh_isBuilder 95 5 w)
  case round =>
    obtain ⟨j, hj, rfl, hI, hp, hu⟩ := hrel
    have HI := Lib.hid hI
    have HP := Lib.hid hp
    have HU := Lib.hid hu
    have hsz := hu.size
    obtain ⟨hBb, p0, v0, hbb⟩ := builder_lt hI
    have zbb : w.heap.size < wr.heap.size := (Array.getElem?_eq_some_iff.1 hbb).1
    have HBB := Lib.hid hbb
    clear hI hp hu hbb
    by_cases hlt : j < n
    · obtain ⟨ab, off, rfl, hab⟩ := HR.out.form (by omega)
      have hr2 := HR.out.kept HU.out (fun q hq => hne q hq)
      obtain ⟨x, hx, hcx, hab2⟩ := reads_bs hr2 j hlt
      obtain ⟨hx0, hx1⟩ := HL.out x (List.mem_of_getElem? hx)
      obtain ⟨m, rfl⟩ : ∃ m : Nat, x = (m : Int) := ⟨x.toNat, by omega⟩
      have hm : m < 256 := by omega
      have HX := Lib.hid (show txt k (l.take (j + 1)) = txt k (l.take j) ++ Lib.encodeRune (signN k m) by
        have hjl : j < l.length := by have := HLL.out; omega
        have e : l[j] = (m : Int) := by rw [List.getElem?_eq_getElem hjl] at hx; injection hx
        rw [List.take_succ_eq_append_getElem hjl, txt_snoc, e]; rfl)
      have HT := Lib.hid (show (Lib.byteCells (txt k (l.take j))).length + 4 ≤ 140737488355328 by
        rw [Lib.byteCells_length]
        have h1 := txt_len k (l.take j)
        have h2 : (l.take j).length ≤ j := by simp; omega
        omega)
      obtain ⟨hs0, hs1⟩ := sign_bd hk hm
      have HS := Lib.hid (sign_at b k hk m hm wr HP.out)
      have hjn : (j : Int) < (n : Int) := by omega
      clear hr2 hx
      generalize hsv : signN k m = sv at *
      clear hsv
      go_wp2_with (first
        | (go_at_call 17; (with_reducible refine HS.out.mono ?_); rintro e w1 ⟨rfl, hp1, hn1⟩; have HI1 := Lib.hid (builder_near HI.out hn1 hb); have HP1 := Lib.hid hp1; have HN1 := Lib.hid hn1; have hz1 := hn1.size; clear hp1 hn1)
        | (go_at_call 56; (refine (writeRune_is w.heap.size w.heap.size _ sv (by omega) (by omega) _ HI1.out HT.out (by omega)).mono ?_); rintro e w2 ⟨rfl, h2, b2, k2⟩; have HI2 := Lib.hid h2; have HB2 := Lib.hid b2; have HK2 := Lib.hid k2; clear h2 b2 k2))
      go_roundw
      case rel =>
        refine ⟨j + 1, by omega, by go_num, ?_, ?_, near_below (HU.out.trans HN1.out) HB2.out⟩
        · rw [HX.out, Lib.byteCells_append, Lib.byteCells_encodeRune]; exact .inr HI2.out
        · obtain ⟨_, p1, v1, hbb1⟩ := builder_lt HI1.out
          exact HP1.out.others hb hbb1 HB2.out HK2.out
      case measure => simp [intOf]; omega
    · obtain rfl : j = n := by omega
      have HX := Lib.hid (show l.take j = l from List.take_of_length_le (by have := HLL.out; omega))
      rw [HX.out] at HI
      go_wp2_with (go_at_call 57; (refine (string_is w.heap.size w.heap.size _ _ HI.out hsz).mono ?_); rintro e w2 ⟨rfl, h2, b2, k2⟩; have HI2 := Lib.hid h2; have HB2 := Lib.hid b2; have HK2 := Lib.hid k2; clear h2 b2 k2)
      go_ret
      exact ⟨rfl, HP.out.others hb HBB.out HB2.out HK2.out, near_below HU.out HB2.out⟩
end Go.Proofs.Ythdoighlfoinaaa
