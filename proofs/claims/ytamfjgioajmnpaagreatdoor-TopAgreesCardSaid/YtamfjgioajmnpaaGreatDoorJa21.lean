/-
The pages' signs, plainly: page 37's, what the other pages have otherwise, and which code a sign has. No condition.
What a page's map of codes holds, plainly: each sign that was laid, at its code. No condition.
A page's memory: its number, its sync.Once, its signs, its map of codes. No condition.
A page's memory; sync.Once's parts over it: the lock, the two calls that are deferred, the slow road with the building as its one call. No condition but that the lock is free.
What the reference's Num computes: digits to the base 16, of texts of at most 4 signs.
The reference's tables of digits are the pages' signs. No condition.
What page's row and others, and the reference's others, compute. No condition.
What page's row computes. No condition.
-/
import Derived.Test.YtamfjgioajmnpaaGreatDoorJa1
import Derived.Maps.OwnSet
import Derived.Test.YtamfjgioajmnpaaGreatDoorJa2
import Derived.Tactics
import Derived.Tactics2
import Derived.Defers
import Derived.Laws.Pointers
import Derived.Laws.LoneSync
import Derived.RegionTactic
import Derived.RegionCalls
import Derived.Laws.NewBlocks
import Derived.Deep.MidRow
import Derived.Laws.CopyOwn
namespace Go.Proofs.YtamfjgioajmnpaaGreatDoor
set_option linter.unusedVariables false

/-- the signs of page 37 -/
def base37 : List Int :=
  [0, 1, 2, 3, 156, 9, 134, 127, 151, 141, 142, 11, 12, 13, 14, 15, 16, 17, 18, 19, 157, 133, 8, 135, 24, 25, 146, 143, 28, 29, 30, 31, 128, 129, 130, 131, 132, 10, 23, 27, 136, 137, 138, 139, 140, 5, 6, 7, 144, 145, 22, 147, 148, 149, 150, 4, 152, 153, 154, 155, 20, 21, 158, 26, 32, 160, 226, 228, 224, 225, 227, 229, 231, 241, 162, 46, 60, 40, 43, 124, 38, 233, 234, 235, 232, 237, 238, 239, 236, 223, 33, 36, 42, 41, 59, 172, 45, 47, 194, 196, 192, 193, 195, 197, 199, 209, 166, 44, 37, 95, 62, 63, 248, 201, 202, 203, 200, 205, 206, 207, 204, 96, 58, 35, 64, 39, 61, 34, 216, 97, 98, 99, 100, 101, 102, 103, 104, 105, 171, 187, 240, 253, 254, 177, 176, 106, 107, 108, 109, 110, 111, 112, 113, 114, 170, 186, 230, 184, 198, 164, 181, 126, 115, 116, 117, 118, 119, 120, 121, 122, 161, 191, 208, 221, 222, 174, 94, 163, 165, 183, 169, 167, 182, 188, 189, 190, 91, 93, 175, 168, 180, 215, 123, 65, 66, 67, 68, 69, 70, 71, 72, 73, 173, 244, 246, 242, 243, 245, 125, 74, 75, 76, 77, 78, 79, 80, 81, 82, 185, 251, 252, 249, 250, 255, 92, 247, 83, 84, 85, 86, 87, 88, 89, 90, 178, 212, 214, 210, 211, 213, 48, 49, 50, 51, 52, 53, 54, 55, 56, 57, 179, 219, 220, 217, 218, 159]
def ovr37 : List (Int × Int) := []
def ovr273 : List (Int × Int) := [(67, 123), (74, 196), (79, 33), (89, 126), (90, 220), (95, 94), (99, 91), (106, 246), (124, 167), (161, 223), (176, 162), (181, 64), (186, 172), (187, 124), (192, 228), (204, 166), (208, 252), (220, 125), (224, 214), (236, 92), (252, 93)]
def ovr297 : List (Int × Int) := [(68, 64), (72, 92), (74, 176), (79, 33), (81, 123), (84, 125), (90, 167), (95, 94), (106, 249), (121, 181), (123, 163), (124, 224), (144, 91), (160, 96), (161, 168), (176, 162), (177, 35), (181, 93), (186, 172), (187, 124), (189, 126), (192, 233), (208, 232), (221, 166), (224, 231)]
def ovr500 : List (Int × Int) := [(74, 91), (79, 33), (90, 93), (95, 94), (176, 162), (186, 172), (187, 124)]
def ovr1047 : List (Int × Int) := [(95, 94), (173, 91), (176, 172), (186, 221), (187, 168), (189, 93)]
def ovr1140 : List (Int × Int) := [(159, 8364)]
def isPage (k : Int) : Bool := k == 37 || k == 273 || k == 297 || k == 500 || k == 1047 || k == 1140
def ovrL (k : Int) : List (Int × Int) := if k = 273 then ovr273 else if k = 297 then ovr297 else if k = 500 then ovr500 else if k = 1047 then ovr1047 else if k = 1140 then ovr1140 else ovr37
/-- the first n of these are laid -/
def setAll (l : List Int) (o : List (Int × Int)) : List Int := o.foldl (fun l p => l.set p.1.toNat p.2) l
def signsL (k : Int) : List Int := setAll base37 (ovrL k)
def signN (k : Int) (c : Nat) : Int := (signsL k).getD c 0
/-- a sign's code -/
def codeN (k s : Int) : Option Nat := (signsL k).findIdx? (fun x => x == s)
theorem page_cases {k : Int} (h : isPage k = true) : k = 37 ∨ k = 273 ∨ k = 297 ∨ k = 500 ∨ k = 1047 ∨ k = 1140 := by
  simpa [isPage, or_assoc] using h
theorem setAll_len : ∀ (o : List (Int × Int)) (l : List Int), (setAll l o).length = l.length
  | [], l => rfl
  | p :: o, l => by
    have := setAll_len o (l.set p.1.toNat p.2)
    simpa [setAll] using this
theorem base37_len : base37.length = 256 := by decide +kernel
theorem signsL_len (k : Int) : (signsL k).length = 256 := by rw [signsL, setAll_len, base37_len]
theorem setAll_take (l : List Int) (o : List (Int × Int)) (j : Nat) (p : Int × Int) (h : o[j]? = some p) : setAll l (o.take (j + 1)) = (setAll l (o.take j)).set p.1.toNat p.2 := by
  obtain ⟨hj, hp⟩ := List.getElem?_eq_some_iff.1 h
  rw [List.take_succ_eq_append_getElem hj, hp]
  simp [setAll, List.foldl_append]
/-- is every sign of the list there once? -/
def onceB : List Int → Bool
  | [] => true
  | x :: l => !(l.any (fun y => y == x)) && onceB l
theorem once_at : ∀ (l : List Int), onceB l = true → ∀ i j : Nat, i < l.length → j < l.length → l.getD i 0 = l.getD j 0 → i = j
  | [], _, i, j, hi, _, _ => absurd hi (by simp)
  | x :: l, h, i, j, hi, hj, e => by
    simp only [onceB, Bool.and_eq_true, Bool.not_eq_true', List.any_eq_false, beq_iff_eq] at h
    obtain ⟨h1, h2⟩ := h
    have hm : ∀ k, k < l.length → l.getD k 0 ∈ l := fun k hk => by
      rw [List.getD, List.getElem?_eq_getElem hk]; exact List.getElem_mem hk
    match i, j with
    | 0, 0 => rfl
    | 0, j + 1 => exact absurd (by simpa using e.symm) (h1 _ (hm j (by simpa using hj)))
    | i + 1, 0 => exact absurd (by simpa using e) (h1 _ (hm i (by simpa using hi)))
    | i + 1, j + 1 => rw [once_at l h2 i j (by simpa using hi) (by simpa using hj) (by simpa using e)]
theorem once_all : onceB (signsL 37) = true ∧ onceB (signsL 273) = true ∧ onceB (signsL 297) = true ∧ onceB (signsL 500) = true ∧ onceB (signsL 1047) = true ∧ onceB (signsL 1140) = true := by decide +kernel
theorem once_page {k : Int} (h : isPage k = true) : onceB (signsL k) = true := by
  obtain ⟨h1, h2, h3, h4, h5, h6⟩ := once_all
  rcases page_cases h with rfl | rfl | rfl | rfl | rfl | rfl
  · exact h1
  · exact h2
  · exact h3
  · exact h4
  · exact h5
  · exact h6
def smallB (l : List Int) : Bool := l.all (fun x => decide (0 ≤ x) && decide (x ≤ 65535))
theorem small_all : smallB (signsL 37) = true ∧ smallB (signsL 273) = true ∧ smallB (signsL 297) = true ∧ smallB (signsL 500) = true ∧ smallB (signsL 1047) = true ∧ smallB (signsL 1140) = true := by decide +kernel
theorem small_page {k : Int} (h : isPage k = true) : smallB (signsL k) = true := by
  obtain ⟨h1, h2, h3, h4, h5, h6⟩ := small_all
  rcases page_cases h with rfl | rfl | rfl | rfl | rfl | rfl
  · exact h1
  · exact h2
  · exact h3
  · exact h4
  · exact h5
  · exact h6
theorem sign_mem {k : Int} {c : Nat} (hc : c < 256) : signN k c ∈ signsL k := by
  have := signsL_len k
  rw [signN, List.getD, List.getElem?_eq_getElem (by omega)]
  exact List.getElem_mem _
theorem sign_bd {k : Int} (h : isPage k = true) {c : Nat} (hc : c < 256) : 0 ≤ signN k c ∧ signN k c ≤ 65535 := by
  have := List.all_eq_true.1 (small_page h) _ (sign_mem hc)
  simpa using this
theorem sign_inj {k : Int} (h : isPage k = true) {c d : Nat} (hc : c < 256) (hd : d < 256) (e : signN k c = signN k d) : c = d :=
  once_at _ (once_page h) c d (by rw [signsL_len]; exact hc) (by rw [signsL_len]; exact hd) e
theorem code_lt {k s : Int} {c : Nat} (h : codeN k s = some c) : c < 256 ∧ signN k c = s := by
  have hl := signsL_len k
  rw [codeN, List.findIdx?_eq_some_iff_getElem] at h
  obtain ⟨h1, h2, _⟩ := h
  refine ⟨by omega, ?_⟩
  rw [signN, List.getD, List.getElem?_eq_getElem h1]
  simpa using h2
theorem code_not {k s : Int} (h : codeN k s = none) {c : Nat} (hc : c < 256) : signN k c ≠ s := by
  rw [codeN, List.findIdx?_eq_none_iff] at h
  have := h _ (sign_mem hc)
  simpa using this
end Go.Proofs.YtamfjgioajmnpaaGreatDoor
namespace Go.Proofs.YtamfjgioajmnpaaGreatDoor
open Go.RowKit Go.Maps Go.ChangeMaps
set_option linter.unusedVariables false

/-- the map behind the first j codes -/
def mapD (L : Nat → Int) : Nat → DataW Unit
  | 0 => .map []
  | j + 1 => (mapD L j).put (.int .i32 (L j)) (.lit (.int .u8 j))
theorem mapD_isMap (L : Nat → Int) : ∀ j, IsMap (mapD L j)
  | 0 => isMap_empty
  | j + 1 => (mapD_isMap L j).put _ _
theorem key_ne {a b : Int} (h : a ≠ b) : (Lit.int .i32 a) ≠ (Lit.int .i32 b) := fun e => h (by injection e)
theorem mapD_has (L : Nat → Int) (s : Int) : ∀ j, Maps.has (mapD L j) (.int .i32 s) = (List.range j).any (fun c => L c == s)
  | 0 => rfl
  | j + 1 => by
    rw [List.range_succ, List.any_append, mapD]
    by_cases h : L j = s
    · subst h
      rw [has_put_same (mapD_isMap L j) (by trivial)]
      simp
    · rw [has_put_other (key_ne (fun e => h e.symm)), mapD_has L s j]
      simp [h]
theorem mapD_at (L : Nat → Int) (s : Int) (c : Nat) (hs : L c = s) (z : DataW Unit) : ∀ j, c < j → (∀ d, d < j → L d = s → d = c) → (mapD L j).atKey (.int .i32 s) z = .lit (.int .u8 c)
  | 0, h, _ => absurd h (by omega)
  | j + 1, h, hu => by
    rw [mapD]
    by_cases hj : L j = s
    · obtain rfl : j = c := hu j (by omega) hj
      subst hs
      rw [atKey_put_same (mapD_isMap L j) (by trivial)]
    · rw [atKey_put_other (key_ne (fun e => hj e.symm))]
      refine mapD_at L s c hs z j ?_ fun d hd hds => hu d (by omega) hds
      rcases Nat.lt_or_ge c j with h1 | h1
      · exact h1
      · obtain rfl : c = j := by omega
        exact absurd hs hj
theorem mapD_not (L : Nat → Int) (s : Int) (z : DataW Unit) : ∀ j, (∀ d, d < j → L d ≠ s) → (mapD L j).atKey (.int .i32 s) z = z
  | 0, _ => rfl
  | j + 1, h => by
    rw [mapD, atKey_put_other (key_ne (fun e => h j (by omega) e.symm))]
    exact mapD_not L s z j fun d hd => h d (by omega)
/-- what is found in a page's map -/
theorem mapD_code {k s : Int} (hk : isPage k = true) : Maps.has (mapD (signN k) 256) (.int .i32 s) = (codeN k s).isSome ∧ ∀ c : Int, (mapD (signN k) 256).atKey (.int .i32 s) (.lit (.int .u8 0)) = .lit (.int .u8 c) → c = (((codeN k s).getD 0 : Nat) : Int) := by
  rw [mapD_has]
  cases hc : codeN k s with
  | none =>
    refine ⟨?_, fun c h => ?_⟩
    · rw [List.any_eq_false.2]
      · rfl
      · intro x hx
        have := code_not hc (List.mem_range.1 hx)
        simpa using this
    · rw [mapD_not _ _ _ _ (fun d hd => code_not hc hd)] at h
      injection h with h
      injection h with _ h
      exact h.symm
  | some d =>
    obtain ⟨hd, hs⟩ := code_lt hc
    refine ⟨?_, fun c h => ?_⟩
    · rw [List.any_eq_true.2 ⟨d, List.mem_range.2 hd, by simpa using hs⟩]
      rfl
    · rw [mapD_at (signN k) s d hs _ 256 hd (fun x hx hxs => sign_inj hk hx hd (hxs.trans hs.symm))] at h
      injection h with h
      injection h with _ h
      exact h.symm
end Go.Proofs.YtamfjgioajmnpaaGreatDoor
namespace Go.Proofs.YtamfjgioajmnpaaGreatDoor
open Go.RowKit Go.Maps
set_option linter.unusedVariables false
set_option linter.unusedSimpArgs false

theorem ad_neP {b x y : Nat} (h : x ≠ y) : (⟨b, x, none⟩ : Addr) ≠ ⟨b, y, none⟩ := fun e => h (by injection e)
/-- a page's cells -/
structure PCells (w : World) (b : Nat) (k dn st : Int) (S : Nat → Int) (mp : Option Nat) : Prop where
  lt : b < w.heap.size
  num : w.cell? ⟨b, 0, none⟩ = some (.int .i64 k)
  dn : w.cell? ⟨b, 1, none⟩ = some (.int .u32 dn)
  st : w.cell? ⟨b, 2, none⟩ = some (.int .i32 st)
  sg : ∀ i, i < 256 → w.cell? ⟨b, 4 + i, none⟩ = some (.int .i32 (S i))
  mp : w.cell? ⟨b, 260, none⟩ = some (.map mp)
  fz : ∀ i, i < 261 → w.frozen? ⟨b, i, none⟩ = false
section
variable {w w' : World} {b : Nat} {k dn st : Int} {S : Nat → Int} {mp : Option Nat}
theorem PCells.of_block (h : PCells w b k dn st S mp) (hb : w'.heap[b]? = w.heap[b]?) (hs : w.heap.size ≤ w'.heap.size) : PCells w' b k dn st S mp :=
  have hc : ∀ o, w'.cell? ⟨b, o, none⟩ = w.cell? ⟨b, o, none⟩ := fun o => World.cell?_of_block hb
  ⟨by have := h.lt; omega, (hc _).trans h.num, (hc _).trans h.dn, (hc _).trans h.st, fun i hi => (hc _).trans (h.sg i hi), (hc _).trans h.mp, fun i hi => (World.frozen?_of_block hb).trans (h.fz i hi)⟩
theorem PCells.up (h : PCells w b k dn st S mp) (hk : Up w w') : PCells w' b k dn st S mp := h.of_block (hk.block b h.lt) hk.size
theorem PCells.drew (h : PCells w b k dn st S mp) : PCells w.drew b k dn st S mp := h.of_block rfl (Nat.le_refl _)
theorem PCells.setS (h : PCells w b k dn st S mp) (i : Nat) (hi : i < 256) (v : Int) : PCells (w.setCell ⟨b, 4 + i, none⟩ (.int .i32 v)) b k dn st (fun j => if j = i then v else S j) mp := by
  refine ⟨by simp [World.setCell]; exact h.lt, ?_, ?_, ?_, fun j hj => ?_, ?_, fun j hj => ?_⟩
  · rw [World.cell?_setCell_other (h := ad_neP (show 4 + i ≠ 0 by omega))]; exact h.num
  · rw [World.cell?_setCell_other (h := ad_neP (show 4 + i ≠ 1 by omega))]; exact h.dn
  · rw [World.cell?_setCell_other (h := ad_neP (show 4 + i ≠ 2 by omega))]; exact h.st
  · by_cases e : j = i
    · subst e
      rw [World.cell?_setCell_same (h := h.sg j hj)]; simp
    · rw [World.cell?_setCell_other (h := ad_neP (show 4 + i ≠ 4 + j by omega))]; simp only [if_neg e]; exact h.sg j hj
  · rw [World.cell?_setCell_other (h := ad_neP (show 4 + i ≠ 260 by omega))]; exact h.mp
  · rw [World.frozen?_setCell]; exact h.fz j hj
theorem PCells.setDn (h : PCells w b k dn st S mp) (v : Int) : PCells (w.setCell ⟨b, 1, none⟩ (.int .u32 v)) b k v st S mp := by
  refine ⟨by simp [World.setCell]; exact h.lt, ?_, ?_, ?_, fun j hj => ?_, ?_, fun j hj => ?_⟩
  · rw [World.cell?_setCell_other (h := ad_neP (show 1 ≠ 0 by omega))]; exact h.num
  · rw [World.cell?_setCell_same (h := h.dn)]
  · rw [World.cell?_setCell_other (h := ad_neP (show 1 ≠ 2 by omega))]; exact h.st
  · rw [World.cell?_setCell_other (h := ad_neP (show 1 ≠ 4 + j by omega))]; exact h.sg j hj
  · rw [World.cell?_setCell_other (h := ad_neP (show 1 ≠ 260 by omega))]; exact h.mp
  · rw [World.frozen?_setCell]; exact h.fz j hj
theorem PCells.setSt (h : PCells w b k dn st S mp) (v : Int) : PCells (w.setCell ⟨b, 2, none⟩ (.int .i32 v)) b k dn v S mp := by
  refine ⟨by simp [World.setCell]; exact h.lt, ?_, ?_, ?_, fun j hj => ?_, ?_, fun j hj => ?_⟩
  · rw [World.cell?_setCell_other (h := ad_neP (show 2 ≠ 0 by omega))]; exact h.num
  · rw [World.cell?_setCell_other (h := ad_neP (show 2 ≠ 1 by omega))]; exact h.dn
  · rw [World.cell?_setCell_same (h := h.st)]
  · rw [World.cell?_setCell_other (h := ad_neP (show 2 ≠ 4 + j by omega))]; exact h.sg j hj
  · rw [World.cell?_setCell_other (h := ad_neP (show 2 ≠ 260 by omega))]; exact h.mp
  · rw [World.frozen?_setCell]; exact h.fz j hj
theorem PCells.setMp (h : PCells w b k dn st S mp) (v : Option Nat) : PCells (w.setCell ⟨b, 260, none⟩ (.map v)) b k dn st S v := by
  refine ⟨by simp [World.setCell]; exact h.lt, ?_, ?_, ?_, fun j hj => ?_, ?_, fun j hj => ?_⟩
  · rw [World.cell?_setCell_other (h := ad_neP (show 260 ≠ 0 by omega))]; exact h.num
  · rw [World.cell?_setCell_other (h := ad_neP (show 260 ≠ 1 by omega))]; exact h.dn
  · rw [World.cell?_setCell_other (h := ad_neP (show 260 ≠ 2 by omega))]; exact h.st
  · rw [World.cell?_setCell_other (h := ad_neP (show 260 ≠ 4 + j by omega))]; exact h.sg j hj
  · rw [World.cell?_setCell_same (h := h.mp)]
  · rw [World.frozen?_setCell]; exact h.fz j hj
theorem PCells.ext (h : PCells w b k dn st S mp) {S' : Nat → Int} (he : ∀ i, i < 256 → S i = S' i) : PCells w b k dn st S' mp :=
  ⟨h.lt, h.num, h.dn, h.st, fun i hi => by rw [← he i hi]; exact h.sg i hi, h.mp, h.fz⟩
end
theorem Near.setCell {b : Nat} {w a : World} (h : Near b w a) (x : Nat) (v : Value) : Near b w (a.setCell ⟨b, x, none⟩ v) := Keep.setCell h (p := ⟨b, x, none⟩) (.inl rfl) v
theorem Near.drew {b : Nat} {w a : World} (h : Near b w a) : Near b w a.drew := Keep.drew h
/-- the map of codes that a page holds -/
def MapAt (w : World) (m : Nat) (D : DataW Unit) (n : Nat) : Prop := w.ownsMap Tryz.prog 21 (plainElem Tryz.prog 5) m n D
theorem MapAt.keep {w w' : World} {m n : Nat} {D : DataW Unit} (h : MapAt w m D n) {E : Nat → Prop} (hk : Keep E w w') (he : ¬ E m) : MapAt w' m D n := by
  have hlt := World.ownsMap.lt h
  obtain ⟨es, clock, hb, r⟩ := h
  exact ⟨es, clock, (hk.block m hlt he).trans hb, r⟩
theorem MapAt.ne_cell {w : World} {m n b o : Nat} {D : DataW Unit} {v : Value} (h : MapAt w m D n) (hc : w.cell? ⟨b, o, none⟩ = some v) : m ≠ b := by
  rintro rfl
  obtain ⟨es, clock, hb, r⟩ := h
  unfold World.cell? at hc
  simp only [hb] at hc
  simp at hc
end Go.Proofs.YtamfjgioajmnpaaGreatDoor
namespace Go.Proofs.YtamfjgioajmnpaaGreatDoor
open Go.RowKit
set_option linter.unusedVariables false
set_option linter.unusedSimpArgs false

theorem disable (w : World) : (callFunc 308 #[]).run Tryz.prog w = .ok (.value (.tuple #[])) w := run_call_mark0 Tryz.func308 (by kernel_rfl) (by kernel_rfl) (by kernel_rfl) .disable (by kernel_rfl) w
theorem enable (w : World) : (callFunc 310 #[]).run Tryz.prog w = .ok (.value (.tuple #[])) w := run_call_mark0 Tryz.func310 (by kernel_rfl) (by kernel_rfl) (by kernel_rfl) .enable (by kernel_rfl) w
theorem acquire (a : Addr) (w : World) : (callFunc 311 #[.pointer (some a)]).run Tryz.prog w = .ok (.value (.tuple #[])) w := run_call_marked Tryz.func311 (by kernel_rfl) (by kernel_rfl) (by kernel_rfl) .acquire (by kernel_rfl) a w
theorem releaseMerge (a : Addr) (w : World) : (callFunc 313 #[.pointer (some a)]).run Tryz.prog w = .ok (.value (.tuple #[])) w := run_call_marked Tryz.func313 (by kernel_rfl) (by kernel_rfl) (by kernel_rfl) .releaseMerge (by kernel_rfl) a w

theorem store_deferred (a : Addr) (x : Value) (u : FrameMode) (w : World) (hc : w.cell? a = some x) (hz : w.frozen? a = false) :
    CallsD Tryz.prog 218 #[.pointer (some a), .bool true] u w fun e u' w' => u' = u ∧ (e = .returned (.tuple #[]) ∧ w' = w.drew.setCell a (.int .u32 1)) := by
  have hc' : w.drew.cell? a = some x := by go_simp
  have hz' : w.drew.frozen? a = false := by go_simp
  have hst := run_call_store (P := Tryz.prog) Tryz.func265 (by kernel_rfl) (by kernel_rfl) (by kernel_rfl) (by kernel_rfl) (k := .u32) (y := 1) hc' hz'
  go_enter_d Tryz.func218, Tryz.ntmps218
  go_wp2
  go_region_calls
  all_goals (go_end0; exact ⟨rfl, rfl⟩)

set_option maxRecDepth 100000 in
theorem unlock_deferred (a : Addr) (u : FrameMode) (w : World) (hc : w.cell? a = some (.int .i32 1)) (hz : w.frozen? a = false) :
    CallsD Tryz.prog 217 #[.pointer (some a)] u w fun e u' w' => u' = u ∧ (e = .returned (.tuple #[]) ∧ w' = w.setCell a (.int .i32 0)) := by
  have hd := disable
  have he := enable
  have hr := releaseMerge
  have hadd := run_call_add (P := Tryz.prog) Tryz.func314 (by kernel_rfl) (by kernel_rfl) (by kernel_rfl) .i32 (by kernel_rfl) (y := -1) (s := 0) hc hz (by simp [go_sem]; rfl)
  have hcv := run_convert_to_unsafe (P := Tryz.prog) (src := 401) (dst := 405) Tryz.underlying401 Tryz.underlying405 (by kernel_rfl) hc
  go_enter_d Tryz.func217, Tryz.ntmps217
  go_wp2
  go_end0
  go_wp2
  go_end0
  exact ⟨rfl, rfl⟩

set_option maxRecDepth 100000 in
theorem lock_free (a : Addr) (w : World) (hc : w.cell? a = some (.int .i32 0)) (hz : w.frozen? a = false) :
    Calls Tryz.prog 216 #[.pointer (some a)] w fun e w' => e = .returned (.tuple #[]) ∧ w' = w.setCell a (.int .i32 1) := by
  have hd := disable
  have he := enable
  have ha := acquire
  have hcas := run_call_cas_hit (P := Tryz.prog) Tryz.func309 (by kernel_rfl) (by kernel_rfl) (by kernel_rfl) .i32 (by kernel_rfl) (y := 1) hc hz
  have hc' : (w.setCell a (.int .i32 1)).cell? a = some (.int .i32 1) := World.cell?_setCell_same w a _ hc
  have hcv := run_convert_to_unsafe (P := Tryz.prog) (src := 401) (dst := 405) Tryz.underlying401 Tryz.underlying405 (by kernel_rfl) hc'
  go_enter Tryz.func216, Tryz.ntmps216
  go_wp2
  first | go_end0 | (simp only [Exit.inBlock, Exit.then]; refine bodyPost_ret (results_none rfl _ _ _) rfl ?_) | refine bodyPost_ret (results_none rfl _ _ _) rfl ?_
  go_wp2
  go_end0
  exact ⟨rfl, rfl⟩
end Go.Proofs.YtamfjgioajmnpaaGreatDoor
namespace Go.Proofs.YtamfjgioajmnpaaGreatDoor
open Go.RowKit
set_option linter.unusedVariables false
set_option linter.unusedSimpArgs false

end Go.Proofs.YtamfjgioajmnpaaGreatDoor
namespace Go.Proofs.YtamfjgioajmnpaaGreatDoor
set_option linter.unusedVariables false

end Go.Proofs.YtamfjgioajmnpaaGreatDoor
namespace Go.Proofs.YtamfjgioajmnpaaGreatDoor
open Go.RowKit
set_option linter.unusedVariables false
set_option linter.unusedSimpArgs false

def encO (p : Int × Int) : List Value := [.int .u8 p.1, .int .u16 p.2]
/-- what others hands over -/
def Ovr (l : List (Int × Int)) (b : Bool) (w : World) (e : Ending) (w' : World) : Prop := ∃ A c, e = .returned (.tuple #[.slice A l.length c, .bool b]) ∧ Reads w' w'.heap.size 2 A l.length (l.flatMap encO) ∧ l.length ≤ c ∧ c ≤ 65536 ∧ (∀ p : Addr, A = some p → w.heap.size ≤ p.block) ∧ Up w w'
theorem ovr_lit (w : World) (l : List (Int × Int)) (cs : Array Value) (t : TypeId) (h : cs.toList = l.flatMap encO) (n : Nat) (hn : n = l.length) (hl : l.length ≤ 65536) :
    Ovr l true w (.returned (.tuple #[.slice (some ⟨w.heap.size, 0, none⟩) n n, .bool true])) (w.alloc (.cells cs t)) := by
  subst hn
  refine ⟨_, _, rfl, ?_, Nat.le_refl _, hl, fun p hp => by injection hp with hp; subst hp; exact Nat.le_refl _, by (repeat (first | with_reducible exact Up.refl _ | with_reducible refine Up.alloc ?_ _ | with_reducible refine Up.drew ?_ | with_reducible refine Up.drewN ?_ _ | with_reducible refine Up.setCell ?_ (by (try simp) <;> omega) _ | with_reducible assumption | with_reducible refine Up.trans ?_ (by assumption)))⟩
  have hsz : cs.size = l.length * 2 := by
    rw [← Array.length_toList, h, flatMap_len (k := 2) (fun _ => rfl)]
  have := reads_at w w.heap.size 2 l.length cs t hsz rfl
  rw [h] at this
  simpa using this
set_option maxRecDepth 100000 in
set_option maxHeartbeats 3200000 in
theorem others_is (k : Int) (h : isPage k = true) (w : World) : Calls Tryz.prog 133 #[.int .i64 k] w (Ovr (ovrL k) true w) := by
  rcases page_cases h with rfl | rfl | rfl | rfl | rfl | rfl
  · go_enter Tryz.func133, Tryz.ntmps133
    go_wp2
    go_ret2
    exact ⟨none, 0, rfl, Reads.none_, by decide, by omega, (fun p hp => absurd hp (by simp)), Up.refl _⟩
  all_goals
    go_enter Tryz.func133, Tryz.ntmps133
    go_wp2
    go_ret2
    exact ovr_lit w (ovrL _) _ _ (by kernel_rfl) _ rfl (by decide)
end Go.Proofs.YtamfjgioajmnpaaGreatDoor
namespace Go.Proofs.YtamfjgioajmnpaaGreatDoor
open Go.RowKit
set_option linter.unusedVariables false
set_option linter.unusedSimpArgs false

theorem up_setRow {w : World} {o : Obj} (cs : Array Value) : Up w ((w.alloc o).setRow w.heap.size cs) := below_setRow ((Up.refl w).alloc o) (Nat.le_refl _) cs
/-- the sixteen signs of a digit -/
def rowV (d : Nat) : Array Value := (((base37.drop (16 * d)).take 16).map (Value.int .u16)).toArray
set_option maxRecDepth 100000 in
set_option maxHeartbeats 1600000 in
theorem row_0 (w : World) : Calls Tryz.prog 378 #[.int .i64 0] w fun e w' => e = .returned (.agg (rowV 0)) ∧ Up w w' := by
  go_enter Tryz.func378, Tryz.ntmps378
  go_wp2_with (refine wpList_store_row rfl 467 (.tmp 2) (.tmp 6) rfl w.heap.size (rowV 0) rfl (by kernel_rfl) 467 _ (heap_alloc_new w _) (by kernel_rfl) (by kernel_rfl) (by kernel_rfl) ?_)
  exact bodyPost_ret (v := .agg (rowV 0)) (results_cell_row rfl _ _ w.heap.size 467 (rowV 0) (0, 0) _ rfl (setRow_heap _ _ _ _ _ _ (heap_alloc_new w _)) Tryz.underlying467 rfl (by kernel_rfl)) rfl ⟨rfl, up_setRow _⟩
set_option maxRecDepth 100000 in
set_option maxHeartbeats 1600000 in
theorem row_1 (w : World) : Calls Tryz.prog 378 #[.int .i64 1] w fun e w' => e = .returned (.agg (rowV 1)) ∧ Up w w' := by
  go_enter Tryz.func378, Tryz.ntmps378
  go_wp2_with (refine wpList_store_row rfl 467 (.tmp 2) (.tmp 9) rfl w.heap.size (rowV 1) rfl (by kernel_rfl) 467 _ (heap_alloc_new w _) (by kernel_rfl) (by kernel_rfl) (by kernel_rfl) ?_)
  exact bodyPost_ret (v := .agg (rowV 1)) (results_cell_row rfl _ _ w.heap.size 467 (rowV 1) (0, 0) _ rfl (setRow_heap _ _ _ _ _ _ (heap_alloc_new w _)) Tryz.underlying467 rfl (by kernel_rfl)) rfl ⟨rfl, up_setRow _⟩
set_option maxRecDepth 100000 in
set_option maxHeartbeats 1600000 in
theorem row_2 (w : World) : Calls Tryz.prog 378 #[.int .i64 2] w fun e w' => e = .returned (.agg (rowV 2)) ∧ Up w w' := by
  go_enter Tryz.func378, Tryz.ntmps378
  go_wp2_with (refine wpList_store_row rfl 467 (.tmp 2) (.tmp 12) rfl w.heap.size (rowV 2) rfl (by kernel_rfl) 467 _ (heap_alloc_new w _) (by kernel_rfl) (by kernel_rfl) (by kernel_rfl) ?_)
  exact bodyPost_ret (v := .agg (rowV 2)) (results_cell_row rfl _ _ w.heap.size 467 (rowV 2) (0, 0) _ rfl (setRow_heap _ _ _ _ _ _ (heap_alloc_new w _)) Tryz.underlying467 rfl (by kernel_rfl)) rfl ⟨rfl, up_setRow _⟩
set_option maxRecDepth 100000 in
set_option maxHeartbeats 1600000 in
theorem row_3 (w : World) : Calls Tryz.prog 378 #[.int .i64 3] w fun e w' => e = .returned (.agg (rowV 3)) ∧ Up w w' := by
  go_enter Tryz.func378, Tryz.ntmps378
  go_wp2_with (refine wpList_store_row rfl 467 (.tmp 2) (.tmp 15) rfl w.heap.size (rowV 3) rfl (by kernel_rfl) 467 _ (heap_alloc_new w _) (by kernel_rfl) (by kernel_rfl) (by kernel_rfl) ?_)
  exact bodyPost_ret (v := .agg (rowV 3)) (results_cell_row rfl _ _ w.heap.size 467 (rowV 3) (0, 0) _ rfl (setRow_heap _ _ _ _ _ _ (heap_alloc_new w _)) Tryz.underlying467 rfl (by kernel_rfl)) rfl ⟨rfl, up_setRow _⟩
set_option maxRecDepth 100000 in
set_option maxHeartbeats 1600000 in
theorem row_4 (w : World) : Calls Tryz.prog 378 #[.int .i64 4] w fun e w' => e = .returned (.agg (rowV 4)) ∧ Up w w' := by
  go_enter Tryz.func378, Tryz.ntmps378
  go_wp2_with (refine wpList_store_row rfl 467 (.tmp 2) (.tmp 18) rfl w.heap.size (rowV 4) rfl (by kernel_rfl) 467 _ (heap_alloc_new w _) (by kernel_rfl) (by kernel_rfl) (by kernel_rfl) ?_)
  exact bodyPost_ret (v := .agg (rowV 4)) (results_cell_row rfl _ _ w.heap.size 467 (rowV 4) (0, 0) _ rfl (setRow_heap _ _ _ _ _ _ (heap_alloc_new w _)) Tryz.underlying467 rfl (by kernel_rfl)) rfl ⟨rfl, up_setRow _⟩
set_option maxRecDepth 100000 in
set_option maxHeartbeats 1600000 in
theorem row_5 (w : World) : Calls Tryz.prog 378 #[.int .i64 5] w fun e w' => e = .returned (.agg (rowV 5)) ∧ Up w w' := by
  go_enter Tryz.func378, Tryz.ntmps378
  go_wp2_with (refine wpList_store_row rfl 467 (.tmp 2) (.tmp 21) rfl w.heap.size (rowV 5) rfl (by kernel_rfl) 467 _ (heap_alloc_new w _) (by kernel_rfl) (by kernel_rfl) (by kernel_rfl) ?_)
  exact bodyPost_ret (v := .agg (rowV 5)) (results_cell_row rfl _ _ w.heap.size 467 (rowV 5) (0, 0) _ rfl (setRow_heap _ _ _ _ _ _ (heap_alloc_new w _)) Tryz.underlying467 rfl (by kernel_rfl)) rfl ⟨rfl, up_setRow _⟩
set_option maxRecDepth 100000 in
set_option maxHeartbeats 1600000 in
theorem row_6 (w : World) : Calls Tryz.prog 378 #[.int .i64 6] w fun e w' => e = .returned (.agg (rowV 6)) ∧ Up w w' := by
  go_enter Tryz.func378, Tryz.ntmps378
  go_wp2_with (refine wpList_store_row rfl 467 (.tmp 2) (.tmp 24) rfl w.heap.size (rowV 6) rfl (by kernel_rfl) 467 _ (heap_alloc_new w _) (by kernel_rfl) (by kernel_rfl) (by kernel_rfl) ?_)
  exact bodyPost_ret (v := .agg (rowV 6)) (results_cell_row rfl _ _ w.heap.size 467 (rowV 6) (0, 0) _ rfl (setRow_heap _ _ _ _ _ _ (heap_alloc_new w _)) Tryz.underlying467 rfl (by kernel_rfl)) rfl ⟨rfl, up_setRow _⟩
set_option maxRecDepth 100000 in
set_option maxHeartbeats 1600000 in
theorem row_7 (w : World) : Calls Tryz.prog 378 #[.int .i64 7] w fun e w' => e = .returned (.agg (rowV 7)) ∧ Up w w' := by
  go_enter Tryz.func378, Tryz.ntmps378
  go_wp2_with (refine wpList_store_row rfl 467 (.tmp 2) (.tmp 27) rfl w.heap.size (rowV 7) rfl (by kernel_rfl) 467 _ (heap_alloc_new w _) (by kernel_rfl) (by kernel_rfl) (by kernel_rfl) ?_)
  exact bodyPost_ret (v := .agg (rowV 7)) (results_cell_row rfl _ _ w.heap.size 467 (rowV 7) (0, 0) _ rfl (setRow_heap _ _ _ _ _ _ (heap_alloc_new w _)) Tryz.underlying467 rfl (by kernel_rfl)) rfl ⟨rfl, up_setRow _⟩
set_option maxRecDepth 100000 in
set_option maxHeartbeats 1600000 in
theorem row_8 (w : World) : Calls Tryz.prog 378 #[.int .i64 8] w fun e w' => e = .returned (.agg (rowV 8)) ∧ Up w w' := by
  go_enter Tryz.func378, Tryz.ntmps378
  go_wp2_with (refine wpList_store_row rfl 467 (.tmp 2) (.tmp 30) rfl w.heap.size (rowV 8) rfl (by kernel_rfl) 467 _ (heap_alloc_new w _) (by kernel_rfl) (by kernel_rfl) (by kernel_rfl) ?_)
  exact bodyPost_ret (v := .agg (rowV 8)) (results_cell_row rfl _ _ w.heap.size 467 (rowV 8) (0, 0) _ rfl (setRow_heap _ _ _ _ _ _ (heap_alloc_new w _)) Tryz.underlying467 rfl (by kernel_rfl)) rfl ⟨rfl, up_setRow _⟩
set_option maxRecDepth 100000 in
set_option maxHeartbeats 1600000 in
theorem row_9 (w : World) : Calls Tryz.prog 378 #[.int .i64 9] w fun e w' => e = .returned (.agg (rowV 9)) ∧ Up w w' := by
  go_enter Tryz.func378, Tryz.ntmps378
  go_wp2_with (refine wpList_store_row rfl 467 (.tmp 2) (.tmp 33) rfl w.heap.size (rowV 9) rfl (by kernel_rfl) 467 _ (heap_alloc_new w _) (by kernel_rfl) (by kernel_rfl) (by kernel_rfl) ?_)
  exact bodyPost_ret (v := .agg (rowV 9)) (results_cell_row rfl _ _ w.heap.size 467 (rowV 9) (0, 0) _ rfl (setRow_heap _ _ _ _ _ _ (heap_alloc_new w _)) Tryz.underlying467 rfl (by kernel_rfl)) rfl ⟨rfl, up_setRow _⟩
set_option maxRecDepth 100000 in
set_option maxHeartbeats 1600000 in
theorem row_10 (w : World) : Calls Tryz.prog 378 #[.int .i64 10] w fun e w' => e = .returned (.agg (rowV 10)) ∧ Up w w' := by
  go_enter Tryz.func378, Tryz.ntmps378
  go_wp2_with (refine wpList_store_row rfl 467 (.tmp 2) (.tmp 36) rfl w.heap.size (rowV 10) rfl (by kernel_rfl) 467 _ (heap_alloc_new w _) (by kernel_rfl) (by kernel_rfl) (by kernel_rfl) ?_)
  exact bodyPost_ret (v := .agg (rowV 10)) (results_cell_row rfl _ _ w.heap.size 467 (rowV 10) (0, 0) _ rfl (setRow_heap _ _ _ _ _ _ (heap_alloc_new w _)) Tryz.underlying467 rfl (by kernel_rfl)) rfl ⟨rfl, up_setRow _⟩
set_option maxRecDepth 100000 in
set_option maxHeartbeats 1600000 in
theorem row_11 (w : World) : Calls Tryz.prog 378 #[.int .i64 11] w fun e w' => e = .returned (.agg (rowV 11)) ∧ Up w w' := by
  go_enter Tryz.func378, Tryz.ntmps378
  go_wp2_with (refine wpList_store_row rfl 467 (.tmp 2) (.tmp 39) rfl w.heap.size (rowV 11) rfl (by kernel_rfl) 467 _ (heap_alloc_new w _) (by kernel_rfl) (by kernel_rfl) (by kernel_rfl) ?_)
  exact bodyPost_ret (v := .agg (rowV 11)) (results_cell_row rfl _ _ w.heap.size 467 (rowV 11) (0, 0) _ rfl (setRow_heap _ _ _ _ _ _ (heap_alloc_new w _)) Tryz.underlying467 rfl (by kernel_rfl)) rfl ⟨rfl, up_setRow _⟩
set_option maxRecDepth 100000 in
set_option maxHeartbeats 1600000 in
theorem row_12 (w : World) : Calls Tryz.prog 378 #[.int .i64 12] w fun e w' => e = .returned (.agg (rowV 12)) ∧ Up w w' := by
  go_enter Tryz.func378, Tryz.ntmps378
  go_wp2_with (refine wpList_store_row rfl 467 (.tmp 2) (.tmp 42) rfl w.heap.size (rowV 12) rfl (by kernel_rfl) 467 _ (heap_alloc_new w _) (by kernel_rfl) (by kernel_rfl) (by kernel_rfl) ?_)
  exact bodyPost_ret (v := .agg (rowV 12)) (results_cell_row rfl _ _ w.heap.size 467 (rowV 12) (0, 0) _ rfl (setRow_heap _ _ _ _ _ _ (heap_alloc_new w _)) Tryz.underlying467 rfl (by kernel_rfl)) rfl ⟨rfl, up_setRow _⟩
set_option maxRecDepth 100000 in
set_option maxHeartbeats 1600000 in
theorem row_13 (w : World) : Calls Tryz.prog 378 #[.int .i64 13] w fun e w' => e = .returned (.agg (rowV 13)) ∧ Up w w' := by
  go_enter Tryz.func378, Tryz.ntmps378
  go_wp2_with (refine wpList_store_row rfl 467 (.tmp 2) (.tmp 45) rfl w.heap.size (rowV 13) rfl (by kernel_rfl) 467 _ (heap_alloc_new w _) (by kernel_rfl) (by kernel_rfl) (by kernel_rfl) ?_)
  exact bodyPost_ret (v := .agg (rowV 13)) (results_cell_row rfl _ _ w.heap.size 467 (rowV 13) (0, 0) _ rfl (setRow_heap _ _ _ _ _ _ (heap_alloc_new w _)) Tryz.underlying467 rfl (by kernel_rfl)) rfl ⟨rfl, up_setRow _⟩
set_option maxRecDepth 100000 in
set_option maxHeartbeats 1600000 in
theorem row_14 (w : World) : Calls Tryz.prog 378 #[.int .i64 14] w fun e w' => e = .returned (.agg (rowV 14)) ∧ Up w w' := by
  go_enter Tryz.func378, Tryz.ntmps378
  go_wp2_with (refine wpList_store_row rfl 467 (.tmp 2) (.tmp 48) rfl w.heap.size (rowV 14) rfl (by kernel_rfl) 467 _ (heap_alloc_new w _) (by kernel_rfl) (by kernel_rfl) (by kernel_rfl) ?_)
  exact bodyPost_ret (v := .agg (rowV 14)) (results_cell_row rfl _ _ w.heap.size 467 (rowV 14) (0, 0) _ rfl (setRow_heap _ _ _ _ _ _ (heap_alloc_new w _)) Tryz.underlying467 rfl (by kernel_rfl)) rfl ⟨rfl, up_setRow _⟩
set_option maxRecDepth 100000 in
set_option maxHeartbeats 1600000 in
theorem row_15 (w : World) : Calls Tryz.prog 378 #[.int .i64 15] w fun e w' => e = .returned (.agg (rowV 15)) ∧ Up w w' := by
  go_enter Tryz.func378, Tryz.ntmps378
  go_wp2_with (refine wpList_store_row rfl 467 (.tmp 2) (.tmp 51) rfl w.heap.size (rowV 15) rfl (by kernel_rfl) 467 _ (heap_alloc_new w _) (by kernel_rfl) (by kernel_rfl) (by kernel_rfl) ?_)
  exact bodyPost_ret (v := .agg (rowV 15)) (results_cell_row rfl _ _ w.heap.size 467 (rowV 15) (0, 0) _ rfl (setRow_heap _ _ _ _ _ _ (heap_alloc_new w _)) Tryz.underlying467 rfl (by kernel_rfl)) rfl ⟨rfl, up_setRow _⟩
theorem row_is (d : Nat) (hd : d < 16) (w : World) :
    Calls Tryz.prog 378 #[.int .i64 (d : Int)] w fun e w' => e = .returned (.agg (rowV d)) ∧ Up w w' := by
  obtain rfl | rfl | rfl | rfl | rfl | rfl | rfl | rfl | rfl | rfl | rfl | rfl | rfl | rfl | rfl | rfl : d = 0 ∨ d = 1 ∨ d = 2 ∨ d = 3 ∨ d = 4 ∨ d = 5 ∨ d = 6 ∨ d = 7 ∨ d = 8 ∨ d = 9 ∨ d = 10 ∨ d = 11 ∨ d = 12 ∨ d = 13 ∨ d = 14 ∨ d = 15 := by omega
  · exact row_0 w
  · exact row_1 w
  · exact row_2 w
  · exact row_3 w
  · exact row_4 w
  · exact row_5 w
  · exact row_6 w
  · exact row_7 w
  · exact row_8 w
  · exact row_9 w
  · exact row_10 w
  · exact row_11 w
  · exact row_12 w
  · exact row_13 w
  · exact row_14 w
  · exact row_15 w
end Go.Proofs.YtamfjgioajmnpaaGreatDoor
