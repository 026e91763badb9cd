/-
  The pages' signs, plainly: page 37's, what the other pages have otherwise, and which code a sign has. No condition.
-/
import Derived.Test.YthdoighlfoinaaaDoorCore
namespace Go.Proofs.YthdoighlfoinaaaDoor
set_option linter.unusedVariables false

/-- the signs of page 37 -/
def base37 : List Int :=
  [0, 1, 2, 3, 156, 9, 134, 127, 151, 141, 142, 11, 12, 13, 14, 15, 16, 17, 18, 19, 157, 133, 8, 135, 24, 25, 146, 143, 28, 29, 30, 31, 128, 129, 130, 131, 132, 10, 23, 27, 136, 137, 138, 139, 140, 5, 6, 7, 144, 145, 22, 147, 148, 149, 150, 4, 152, 153, 154, 155, 20, 21, 158, 26, 32, 160, 226, 228, 224, 225, 227, 229, 231, 241, 162, 46, 60, 40, 43, 124, 38, 233, 234, 235, 232, 237, 238, 239, 236, 223, 33, 36, 42, 41, 59, 172, 45, 47, 194, 196, 192, 193, 195, 197, 199, 209, 166, 44, 37, 95, 62, 63, 248, 201, 202, 203, 200, 205, 206, 207, 204, 96, 58, 35, 64, 39, 61, 34, 216, 97, 98, 99, 100, 101, 102, 103, 104, 105, 171, 187, 240, 253, 254, 177, 176, 106, 107, 108, 109, 110, 111, 112, 113, 114, 170, 186, 230, 184, 198, 164, 181, 126, 115, 116, 117, 118, 119, 120, 121, 122, 161, 191, 208, 221, 222, 174, 94, 163, 165, 183, 169, 167, 182, 188, 189, 190, 91, 93, 175, 168, 180, 215, 123, 65, 66, 67, 68, 69, 70, 71, 72, 73, 173, 244, 246, 242, 243, 245, 125, 74, 75, 76, 77, 78, 79, 80, 81, 82, 185, 251, 252, 249, 250, 255, 92, 247, 83, 84, 85, 86, 87, 88, 89, 90, 178, 212, 214, 210, 211, 213, 48, 49, 50, 51, 52, 53, 54, 55, 56, 57, 179, 219, 220, 217, 218, 159]
def ovr37 : List (Int × Int) := []
def ovr273 : List (Int × Int) := [(67, 123), (74, 196), (79, 33), (89, 126), (90, 220), (95, 94), (99, 91), (106, 246), (124, 167), (161, 223), (176, 162), (181, 64), (186, 172), (187, 124), (192, 228), (204, 166), (208, 252), (220, 125), (224, 214), (236, 92), (252, 93)]
def ovr297 : List (Int × Int) := [(68, 64), (72, 92), (74, 176), (79, 33), (81, 123), (84, 125), (90, 167), (95, 94), (106, 249), (121, 181), (123, 163), (124, 224), (144, 91), (160, 96), (161, 168), (176, 162), (177, 35), (181, 93), (186, 172), (187, 124), (189, 126), (192, 233), (208, 232), (221, 166), (224, 231)]
def ovr500 : List (Int × Int) := [(74, 91), (79, 33), (90, 93), (95, 94), (176, 162), (186, 172), (187, 124)]
def ovr1047 : List (Int × Int) := [(95, 94), (173, 91), (176, 172), (186, 221), (187, 168), (189, 93)]
def ovr1140 : List (Int × Int) := [(159, 8364)]
def escL : List (Int × Int) := [(112, 8743), (133, 9474), (138, 8593), (139, 8595), (140, 8804), (143, 8594), (159, 8592), (162, 9472), (174, 8805), (190, 8800), (196, 9492), (197, 9484), (198, 9500), (199, 9524), (211, 9532), (212, 9496), (213, 9488), (214, 9508), (215, 9516)]


def isPage (k : Int) : Bool := k == 37 || k == 273 || k == 297 || k == 500 || k == 1047 || k == 1140
def ovrL (k : Int) : List (Int × Int) := if k = 273 then ovr273 else if k = 297 then ovr297 else if k = 500 then ovr500 else if k = 1047 then ovr1047 else if k = 1140 then ovr1140 else ovr37
/-- the first n of these are laid -/
def setAll (l : List Int) (o : List (Int × Int)) : List Int := o.foldl (fun l p => l.set p.1.toNat p.2) l
def signsL (k : Int) : List Int := setAll base37 (ovrL k)
def signN (k : Int) (c : Nat) : Int := (signsL k).getD c 0
/-- a sign's code -/
def codeN (k s : Int) : Option Nat := (signsL k).findIdx? (fun x => x == s)
theorem page_cases {k : Int} (h : isPage k = true) : k = 37 ∨ k = 273 ∨ k = 297 ∨ k = 500 ∨ k = 1047 ∨ k = 1140 := by
  simpa [isPage, or_assoc] using h
theorem setAll_len : ∀ (o : List (Int × Int)) (l : List Int), (setAll l o).length = l.length
  | [], l => rfl
  | p :: o, l => by
    have := setAll_len o (l.set p.1.toNat p.2)
    simpa [setAll] using this
theorem base37_len : base37.length = 256 := by decide +kernel
theorem signsL_len (k : Int) : (signsL k).length = 256 := by rw [signsL, setAll_len, base37_len]
theorem setAll_take (l : List Int) (o : List (Int × Int)) (j : Nat) (p : Int × Int) (h : o[j]? = some p) : setAll l (o.take (j + 1)) = (setAll l (o.take j)).set p.1.toNat p.2 := by
  obtain ⟨hj, hp⟩ := List.getElem?_eq_some_iff.1 h
  rw [List.take_succ_eq_append_getElem hj, hp]
  simp [setAll, List.foldl_append]
/-- is every sign of the list there once? -/
def onceB : List Int → Bool
  | [] => true
  | x :: l => !(l.any (fun y => y == x)) && onceB l
theorem once_at : ∀ (l : List Int), onceB l = true → ∀ i j : Nat, i < l.length → j < l.length → l.getD i 0 = l.getD j 0 → i = j
  | [], _, i, j, hi, _, _ => absurd hi (by simp)
  | x :: l, h, i, j, hi, hj, e => by
    simp only [onceB, Bool.and_eq_true, Bool.not_eq_true', List.any_eq_false, beq_iff_eq] at h
    obtain ⟨h1, h2⟩ := h
    have hm : ∀ k, k < l.length → l.getD k 0 ∈ l := fun k hk => by
      rw [List.getD, List.getElem?_eq_getElem hk]; exact List.getElem_mem hk
    match i, j with
    | 0, 0 => rfl
    | 0, j + 1 => exact absurd (by simpa using e.symm) (h1 _ (hm j (by simpa using hj)))
    | i + 1, 0 => exact absurd (by simpa using e) (h1 _ (hm i (by simpa using hi)))
    | i + 1, j + 1 => rw [once_at l h2 i j (by simpa using hi) (by simpa using hj) (by simpa using e)]
theorem once_all : onceB (signsL 37) = true ∧ onceB (signsL 273) = true ∧ onceB (signsL 297) = true ∧ onceB (signsL 500) = true ∧ onceB (signsL 1047) = true ∧ onceB (signsL 1140) = true := by decide +kernel
theorem once_page {k : Int} (h : isPage k = true) : onceB (signsL k) = true := by
  obtain ⟨h1, h2, h3, h4, h5, h6⟩ := once_all
  rcases page_cases h with rfl | rfl | rfl | rfl | rfl | rfl
  · exact h1
  · exact h2
  · exact h3
  · exact h4
  · exact h5
  · exact h6
def smallB (l : List Int) : Bool := l.all (fun x => decide (0 ≤ x) && decide (x ≤ 65535))
theorem small_all : smallB (signsL 37) = true ∧ smallB (signsL 273) = true ∧ smallB (signsL 297) = true ∧ smallB (signsL 500) = true ∧ smallB (signsL 1047) = true ∧ smallB (signsL 1140) = true := by decide +kernel
theorem small_page {k : Int} (h : isPage k = true) : smallB (signsL k) = true := by
  obtain ⟨h1, h2, h3, h4, h5, h6⟩ := small_all
  rcases page_cases h with rfl | rfl | rfl | rfl | rfl | rfl
  · exact h1
  · exact h2
  · exact h3
  · exact h4
  · exact h5
  · exact h6
theorem sign_mem {k : Int} {c : Nat} (hc : c < 256) : signN k c ∈ signsL k := by
  have := signsL_len k
  rw [signN, List.getD, List.getElem?_eq_getElem (by omega)]
  exact List.getElem_mem _
theorem sign_bd {k : Int} (h : isPage k = true) {c : Nat} (hc : c < 256) : 0 ≤ signN k c ∧ signN k c ≤ 65535 := by
  have := List.all_eq_true.1 (small_page h) _ (sign_mem hc)
  simpa using this
theorem sign_inj {k : Int} (h : isPage k = true) {c d : Nat} (hc : c < 256) (hd : d < 256) (e : signN k c = signN k d) : c = d :=
  once_at _ (once_page h) c d (by rw [signsL_len]; exact hc) (by rw [signsL_len]; exact hd) e
theorem code_some {k s : Int} {c : Nat} (hc : c < 256) (hs : signN k c = s) (hno : ∀ d, d < c → signN k d ≠ s) : codeN k s = some c := by
  have hl := signsL_len k
  rw [codeN, List.findIdx?_eq_some_iff_getElem]
  refine ⟨by omega, ?_, fun d hd => ?_⟩
  · rw [← hs, signN, List.getD, List.getElem?_eq_getElem (by omega)]; simp
  · have := hno d hd
    rw [signN, List.getD, List.getElem?_eq_getElem (by omega)] at this
    simpa using this
theorem code_none {k s : Int} (hno : ∀ d, d < 256 → signN k d ≠ s) : codeN k s = none := by
  have hl := signsL_len k
  rw [codeN, List.findIdx?_eq_none_iff]
  intro x hx
  obtain ⟨d, hd⟩ := List.getElem?_of_mem hx
  have hdl := (List.getElem?_eq_some_iff.1 hd).1
  have := hno d (by omega)
  rw [signN, List.getD, hd] at this
  simpa using this
theorem code_of {k : Int} (h : isPage k = true) {c : Nat} (hc : c < 256) : codeN k (signN k c) = some c :=
  code_some hc rfl fun d hd e => by
    have := sign_inj h (by omega) hc e
    omega
theorem code_lt {k s : Int} {c : Nat} (h : codeN k s = some c) : c < 256 ∧ signN k c = s := by
  have hl := signsL_len k
  rw [codeN, List.findIdx?_eq_some_iff_getElem] at h
  obtain ⟨h1, h2, _⟩ := h
  refine ⟨by omega, ?_⟩
  rw [signN, List.getD, List.getElem?_eq_getElem h1]
  simpa using h2
theorem code_not {k s : Int} (h : codeN k s = none) {c : Nat} (hc : c < 256) : signN k c ≠ s := by
  rw [codeN, List.findIdx?_eq_none_iff] at h
  have := h _ (sign_mem hc)
  simpa using this
end Go.Proofs.YthdoighlfoinaaaDoor
