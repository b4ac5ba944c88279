/- Counts and sums of groups: plain laws. -/
import Derived.Test.YtflhmieeidnpgaaGreatDoorHh
import Derived.Test.YtflhmieeidnpgaaGreatDoorHo
namespace Go.Proofs.YtflhmieeidnpgaaGreatDoor
set_option linter.unusedVariables false
open Go.RowKit Go
/-- A sum over the first of a list. -/
def iSum {α : Type} [Inhabited α] (f : α → Int) (l : List α) : Nat → Int
  | 0 => 0
  | i + 1 => iSum f l i + f (l.getD i default)
section
variable {α : Type} [Inhabited α] {f : α → Int}
theorem iSum_app (l : List α) (x : α) : ∀ i, i ≤ l.length → iSum f (l ++ [x]) i = iSum f l i
  | 0, _ => rfl
  | i + 1, h => by
    unfold iSum
    rw [iSum_app l x i (by omega), List.getD_eq_getElem?_getD, List.getElem?_append_left (by omega), ← List.getD_eq_getElem?_getD]
theorem iSum_push (l : List α) (x : α) : iSum f (l ++ [x]) (l ++ [x]).length = iSum f l l.length + f x := by
  rw [List.length_append, List.length_singleton]
  show iSum f (l ++ [x]) l.length + f ((l ++ [x]).getD l.length default) = _
  rw [iSum_app l x _ (Nat.le_refl _), List.getD_eq_getElem?_getD, List.getElem?_append_right (Nat.le_refl _)]
  simp
theorem iSum_set (l : List α) (k : Nat) (x : α) (hk : k < l.length) : ∀ i, iSum f (l.set k x) i = iSum f l i + (if k < i then f x - f (l.getD k default) else 0)
  | 0 => by simp [iSum]
  | i + 1 => by
    have ih := iSum_set l k x hk i
    unfold iSum
    rw [ih]
    by_cases e : i = k
    · subst e
      rw [List.getD_eq_getElem?_getD (l := l.set i x), List.getElem?_set_self hk, if_neg (by omega), if_pos (by omega)]
      simp
      omega
    · rw [List.getD_eq_getElem?_getD (l := l.set k x), List.getElem?_set_ne (Ne.symm e), ← List.getD_eq_getElem?_getD]
      by_cases h : k < i
      · rw [if_pos h, if_pos (by omega)]
        omega
      · rw [if_neg h, if_neg (by omega)]
        omega
end
/-- The sum over groups of what is summed over their rows. -/
def gSum (f : List Int → Int) (gs : List (List (List Int))) (i : Nat) : Int := iSum (fun g : List (List Int) => iSum f g g.length) gs i
theorem gSum_grow (f : List Int → Int) (ks : List Key) (gs : List (List (List Int))) (x : List Int) : gSum f (grow ks gs x) (grow ks gs x).length = gSum f gs gs.length + f x := by
  unfold gSum
  rcases grow_cases ks gs x with ⟨k, hk, e⟩ | e
  · rw [e, iSum_set gs k _ hk, List.length_set, if_pos hk, iSum_push]
    show _ + (iSum f (gs.getD k []) (gs.getD k []).length + f x - iSum f (gs.getD k []) (gs.getD k []).length) = _
    omega
  · rw [e, iSum_push]
    have : iSum f [x] [x].length = f x := by
      show iSum f [x] 0 + f x = f x
      show 0 + f x = f x
      omega
    rw [this]
theorem gSum_groups (f : List Int → Int) (ks : List Key) (rows : List (List Int)) : ∀ i, gSum f (groupsTo ks rows i) (groupsTo ks rows i).length = iSum f rows i
  | 0 => rfl
  | i + 1 => by
    unfold groupsTo
    rw [gSum_grow, gSum_groups f ks rows i]
    rfl
theorem one_sum (g : List (List Int)) : ∀ i, iSum (fun _ : List Int => (1 : Int)) g i = (i : Int)
  | 0 => rfl
  | i + 1 => by
    unfold iSum
    rw [one_sum g i]
    omega
/-- Any row is in a group. -/
theorem groups_cover (ks : List Key) (rows : List (List Int)) : ∀ i j, j < i → rows.getD j [] ∈ (groupsTo ks rows i).flatten
  | 0, j, h => absurd h (Nat.not_lt_zero _)
  | i + 1, j, h => by
    have key : ∀ r, (r ∈ (groupsTo ks rows i).flatten ∨ r = rows.getD i []) → r ∈ (groupsTo ks rows (i + 1)).flatten := by
      intro r hr
      unfold groupsTo
      rcases grow_cases ks (groupsTo ks rows i) (rows.getD i []) with ⟨k, hk, e⟩ | e
      · rw [e]
        rcases hr with hr | hr
        · rw [List.mem_flatten] at hr ⊢
          obtain ⟨g, hg, hrg⟩ := hr
          obtain ⟨q, hq, rfl⟩ := List.getElem_of_mem hg
          by_cases e2 : q = k
          · subst e2
            refine ⟨(groupsTo ks rows i).getD q [] ++ [rows.getD i []], List.mem_set hk _, ?_⟩
            rw [List.mem_append]
            left
            rw [List.getD_eq_getElem?_getD, List.getElem?_eq_getElem hq]
            exact hrg
          · refine ⟨(groupsTo ks rows i)[q], ?_, hrg⟩
            have h2 : ((groupsTo ks rows i).set k ((groupsTo ks rows i).getD k [] ++ [rows.getD i []]))[q]? = some ((groupsTo ks rows i)[q]) := by
              rw [List.getElem?_set_ne (Ne.symm e2), List.getElem?_eq_getElem hq]
            exact List.mem_of_getElem? h2
        · rw [List.mem_flatten]
          exact ⟨(groupsTo ks rows i).getD k [] ++ [rows.getD i []], List.mem_set hk _, by rw [hr]; simp⟩
      · rw [e, List.flatten_append, List.mem_append]
        rcases hr with hr | hr
        · exact .inl hr
        · right
          rw [hr]
          simp
    by_cases e : j = i
    · subst e
      exact key _ (.inr rfl)
    · exact key _ (.inl (groups_cover ks rows i j (by omega)))

/-- A row's integer, by a var; and whether there is nothing wrong. -/
def rowInt (ts : List Tm) (p : Nat) (fnd : Bool) (r : List Int) : Int := match termN ts (valN p fnd r) with | some t => (asIntT t).1 | none => 0
def rowOk (ts : List Tm) (p : Nat) (fnd : Bool) (r : List Int) : Prop := match termN ts (valN p fnd r) with | some t => (asIntT t).2 = 0 | none => True
theorem sumTo_app (l : List Tm) (x : Tm) : ∀ i, i ≤ l.length → sumTo (l ++ [x]) i = sumTo l i
  | 0, _ => rfl
  | i + 1, h => by
    unfold sumTo
    rw [sumTo_app l x i (by omega), List.getD_eq_getElem?_getD, List.getElem?_append_left (by omega), ← List.getD_eq_getElem?_getD]
theorem getD_at {l : List Tm} {x : Tm} : (l ++ [x]).getD l.length default = x := by
  rw [List.getD_eq_getElem?_getD, List.getElem?_append_right (Nat.le_refl _)]
  simp
theorem terms_sum (ts : List Tm) (p : Nat) (fnd : Bool) (rows : List (List Int)) : ∀ i, sumTo (termsTo ts p fnd rows i) (termsTo ts p fnd rows i).length = iSum (rowInt ts p fnd) rows i ∧
    ((∀ j, j < (termsTo ts p fnd rows i).length → (asIntT ((termsTo ts p fnd rows i).getD j default)).2 = 0) ↔ ∀ j, j < i → rowOk ts p fnd (rows.getD j default))
  | 0 => ⟨rfl, fun _ j h => absurd h (Nat.not_lt_zero _), fun _ j h => absurd h (Nat.not_lt_zero _)⟩
  | i + 1 => by
    obtain ⟨h1, h2⟩ := terms_sum ts p fnd rows i
    have hd : rows.getD i default = rows.getD i [] := rfl
    cases ht : termN ts (valN p fnd (rows.getD i [])) with
    | none =>
      have e : termsTo ts p fnd rows (i + 1) = termsTo ts p fnd rows i := by
        show (match termN ts (valN p fnd (rows.getD i [])) with | some t => termsTo ts p fnd rows i ++ [t] | none => termsTo ts p fnd rows i) = _
        rw [ht]
      have e2 : rowInt ts p fnd (rows.getD i default) = 0 := by
        unfold rowInt
        rw [hd, ht]
      have e3 : rowOk ts p fnd (rows.getD i default) := by
        unfold rowOk
        rw [hd, ht]
        trivial
      rw [e]
      refine ⟨by rw [h1]; show _ = iSum _ rows i + _; rw [e2]; omega, ?_⟩
      rw [h2]
      constructor
      · intro h j hj
        by_cases e4 : j = i
        · rw [e4]
          exact e3
        · exact h j (by omega)
      · intro h j hj
        exact h j (by omega)
    | some t =>
      have e : termsTo ts p fnd rows (i + 1) = termsTo ts p fnd rows i ++ [t] := by
        show (match termN ts (valN p fnd (rows.getD i [])) with | some t => termsTo ts p fnd rows i ++ [t] | none => termsTo ts p fnd rows i) = _
        rw [ht]
      have e2 : rowInt ts p fnd (rows.getD i default) = (asIntT t).1 := by
        unfold rowInt
        rw [hd, ht]
      have e3 : rowOk ts p fnd (rows.getD i default) ↔ (asIntT t).2 = 0 := by
        unfold rowOk
        rw [hd, ht]
      rw [e, List.length_append, List.length_singleton]
      refine ⟨?_, ?_⟩
      · show sumTo (termsTo ts p fnd rows i ++ [t]) (termsTo ts p fnd rows i).length + _ = iSum _ rows i + _
        rw [sumTo_app _ _ _ (Nat.le_refl _), h1, getD_at, e2]
      · constructor
        · intro h j hj
          by_cases e4 : j = i
          · rw [e4, e3]
            have := h (termsTo ts p fnd rows i).length (by omega)
            rw [getD_at] at this
            exact this
          · refine h2.1 (fun q hq => ?_) j (by omega)
            have := h q (by omega)
            rw [List.getD_eq_getElem?_getD, List.getElem?_append_left hq, ← List.getD_eq_getElem?_getD] at this
            exact this
        · intro h j hj
          by_cases e4 : j < (termsTo ts p fnd rows i).length
          · have := h2.2 (fun q hq => h q (by omega)) j e4
            rw [List.getD_eq_getElem?_getD, List.getElem?_append_left e4, ← List.getD_eq_getElem?_getD]
            exact this
          · have e5 : j = (termsTo ts p fnd rows i).length := by omega
            rw [e5, getD_at]
            exact e3.1 (h i (by omega))
/-- The sum of a var's integers, over rows. -/
theorem sumIs_iff {ts : List Tm} {p : Nat} {fnd : Bool} {rows : List (List Int)} {s : Int} : SumIs (termsTo ts p fnd rows rows.length) s ↔ ((∀ r, r ∈ rows → rowOk ts p fnd r) ∧ s = iSum (rowInt ts p fnd) rows rows.length ∧ -9223372036854775808 ≤ s ∧ s ≤ 9223372036854775807) := by
  obtain ⟨h1, h2⟩ := terms_sum ts p fnd rows rows.length
  unfold SumIs
  rw [h1, h2]
  constructor
  · rintro ⟨a, b⟩
    refine ⟨fun r hr => ?_, b⟩
    obtain ⟨j, hj, rfl⟩ := List.getElem_of_mem hr
    have := a j hj
    rw [List.getD_eq_getElem?_getD, List.getElem?_eq_getElem hj] at this
    exact this
  · rintro ⟨a, b⟩
    refine ⟨fun j hj => a _ ?_, b⟩
    rw [List.getD_eq_getElem?_getD, List.getElem?_eq_getElem hj]
    exact List.getElem_mem hj

end Go.Proofs.YtflhmieeidnpgaaGreatDoor
