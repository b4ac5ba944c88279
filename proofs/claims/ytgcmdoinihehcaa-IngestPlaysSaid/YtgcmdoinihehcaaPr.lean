/- Plain laws for the walk of the document's Take. -/
import Derived.Test.YtgcmdoinihehcaaPq
namespace Go.Proofs.Ytgcmdoinihehcaa
set_option linter.unusedVariables false

theorem outL_snoc (p : Int × Bool) (all : Bool) (l : List Item) (x : Item) : outL p all (l ++ [x]) = if goes p all x = true then insL x (outL p all l) else outL p all l := by
  unfold outL
  rw [List.filter_append, List.foldl_append]
  by_cases h : goes p all x = true
  · rw [if_pos h]; simp [h]
  · rw [if_neg h]; simp [h]

theorem leftL_snoc (p : Int × Bool) (all : Bool) (l : List Item) (x : Item) : leftL p all (l ++ [x]) = if goes p all x = true then leftL p all l else leftL p all l ++ [x] := by
  unfold leftL
  rw [List.filter_append]
  by_cases h : goes p all x = true
  · rw [if_pos h]; simp [h]
  · rw [if_neg h]; simp [h]

theorem outL_len (p : Int × Bool) (all : Bool) (l : List Item) : (outL p all l).length ≤ l.length := by
  rw [(outL_perm p all l).length_eq]
  exact List.length_filter_le _ _
theorem leftL_len (p : Int × Bool) (all : Bool) (l : List Item) : (leftL p all l).length ≤ l.length := List.length_filter_le _ _

/-- The place that the loop finds is the place of insL. -/
theorem insL_at (x : Item) : ∀ (l : List Item) (k : Nat), k ≤ l.length → (∀ j (h : j < l.length), j < k → lt' x l[j] = true) → (∀ h : k < l.length, lt' x l[k] = false) → insL x l = l.take k ++ x :: l.drop k
  | [], k, hk, _, _ => by
    have : k = 0 := by simpa using hk
    subst this
    rfl
  | y :: l, 0, _, _, h => by
    have := h (by simp)
    unfold insL
    simp only [List.getElem_cons_zero] at this
    simp [this]
  | y :: l, k + 1, hk, h1, h2 => by
    have hy : lt' x y = true := h1 0 (by simp) (by omega)
    have ih := insL_at x l k (by simpa using hk) (fun j hj hjk => h1 (j + 1) (by simpa using hj) (by omega)) (fun h => h2 (by simpa using h))
    have e : insL x (y :: l) = y :: insL x l := by unfold insL; simp [hy]
    rw [e, ih]
    simp

end Go.Proofs.Ytgcmdoinihehcaa
