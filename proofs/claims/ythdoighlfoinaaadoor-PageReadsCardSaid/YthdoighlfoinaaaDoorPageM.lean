/-
  What a page's map of codes holds, plainly: each sign that was laid, at its code. No condition.
-/
import Derived.Test.YthdoighlfoinaaaDoorPageL
import Derived.Maps.OwnSet
namespace Go.Proofs.YthdoighlfoinaaaDoor
open Go.RowKit Go.Maps Go.ChangeMaps
set_option linter.unusedVariables false

/-- the map behind the first j codes -/
def mapD (L : Nat → Int) : Nat → DataW Unit
  | 0 => .map []
  | j + 1 => (mapD L j).put (.int .i32 (L j)) (.lit (.int .u8 j))
theorem mapD_isMap (L : Nat → Int) : ∀ j, IsMap (mapD L j)
  | 0 => isMap_empty
  | j + 1 => (mapD_isMap L j).put _ _
theorem key_ne {a b : Int} (h : a ≠ b) : (Lit.int .i32 a) ≠ (Lit.int .i32 b) := fun e => h (by injection e)
theorem mapD_has (L : Nat → Int) (s : Int) : ∀ j, Maps.has (mapD L j) (.int .i32 s) = (List.range j).any (fun c => L c == s)
  | 0 => rfl
  | j + 1 => by
    rw [List.range_succ, List.any_append, mapD]
    by_cases h : L j = s
    · subst h
      rw [has_put_same (mapD_isMap L j) (by trivial)]
      simp
    · rw [has_put_other (key_ne (fun e => h e.symm)), mapD_has L s j]
      simp [h]
theorem mapD_at (L : Nat → Int) (s : Int) (c : Nat) (hs : L c = s) (z : DataW Unit) : ∀ j, c < j → (∀ d, d < j → L d = s → d = c) → (mapD L j).atKey (.int .i32 s) z = .lit (.int .u8 c)
  | 0, h, _ => absurd h (by omega)
  | j + 1, h, hu => by
    rw [mapD]
    by_cases hj : L j = s
    · obtain rfl : j = c := hu j (by omega) hj
      subst hs
      rw [atKey_put_same (mapD_isMap L j) (by trivial)]
    · rw [atKey_put_other (key_ne (fun e => hj e.symm))]
      refine mapD_at L s c hs z j ?_ fun d hd hds => hu d (by omega) hds
      rcases Nat.lt_or_ge c j with h1 | h1
      · exact h1
      · obtain rfl : c = j := by omega
        exact absurd hs hj
theorem mapD_not (L : Nat → Int) (s : Int) (z : DataW Unit) : ∀ j, (∀ d, d < j → L d ≠ s) → (mapD L j).atKey (.int .i32 s) z = z
  | 0, _ => rfl
  | j + 1, h => by
    rw [mapD, atKey_put_other (key_ne (fun e => h j (by omega) e.symm))]
    exact mapD_not L s z j fun d hd => h d (by omega)
/-- what is found in a page's map -/
theorem mapD_code {k s : Int} (hk : isPage k = true) : Maps.has (mapD (signN k) 256) (.int .i32 s) = (codeN k s).isSome ∧ ∀ c : Int, (mapD (signN k) 256).atKey (.int .i32 s) (.lit (.int .u8 0)) = .lit (.int .u8 c) → c = (((codeN k s).getD 0 : Nat) : Int) := by
  rw [mapD_has]
  cases hc : codeN k s with
  | none =>
    refine ⟨?_, fun c h => ?_⟩
    · rw [List.any_eq_false.2]
      · rfl
      · intro x hx
        have := code_not hc (List.mem_range.1 hx)
        simpa using this
    · rw [mapD_not _ _ _ _ (fun d hd => code_not hc hd)] at h
      injection h with h
      injection h with _ h
      exact h.symm
  | some d =>
    obtain ⟨hd, hs⟩ := code_lt hc
    refine ⟨?_, fun c h => ?_⟩
    · rw [List.any_eq_true.2 ⟨d, List.mem_range.2 hd, by simpa using hs⟩]
      rfl
    · rw [mapD_at (signN k) s d hs _ 256 hd (fun x hx hxs => sign_inj hk hx hd (hxs.trans hs.symm))] at h
      injection h with h
      injection h with _ h
      exact h.symm
end Go.Proofs.YthdoighlfoinaaaDoor
