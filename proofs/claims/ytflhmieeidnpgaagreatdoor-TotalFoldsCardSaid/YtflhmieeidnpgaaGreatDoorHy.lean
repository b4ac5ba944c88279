/- The decimal digits of a number, the lowest first: plain. -/
import Derived.Test.YtflhmieeidnpgaaGreatDoorMem
namespace Go.Proofs.YtflhmieeidnpgaaGreatDoor
set_option linter.unusedVariables false

/-- The digits, the lowest first; of 0 none. -/
def digs (n : Nat) : List Nat := if h : n = 0 then [] else n % 10 :: digs (n / 10)
termination_by n
decreasing_by omega
/-- What digits are worth. -/
def dval : List Nat → Nat
  | [] => 0
  | d :: r => d + 10 * dval r
theorem digs_zero : digs 0 = [] := by rw [digs]; simp
theorem digs_pos {n : Nat} (h : n ≠ 0) : digs n = n % 10 :: digs (n / 10) := by rw [digs, dif_neg h]
theorem dval_digs (n : Nat) : dval (digs n) = n := by
  induction n using Nat.strongRecOn with
  | _ n ih =>
    by_cases h : n = 0
    · subst h
      rw [digs_zero]
      rfl
    · rw [digs_pos h, dval, ih (n / 10) (by omega)]
      omega
theorem digs_lt (n : Nat) : ∀ d, d ∈ digs n → d < 10 := by
  induction n using Nat.strongRecOn with
  | _ n ih =>
    intro d hd
    by_cases h : n = 0
    · subst h
      rw [digs_zero] at hd
      cases hd
    · rw [digs_pos h] at hd
      rcases List.mem_cons.1 hd with rfl | hd
      · omega
      · exact ih (n / 10) (by omega) d hd
theorem dval_pos : ∀ (l : List Nat), l ≠ [] → (∀ d, l.getLast? = some d → d ≠ 0) → 0 < dval l
  | [], h, _ => absurd rfl h
  | [d], _, h => by
    have := h d rfl
    simp only [dval]
    omega
  | d :: e :: r, _, h => by
    have := dval_pos (e :: r) (by simp) (fun x hx => h x (by rw [List.getLast?_cons_cons]; exact hx))
    simp only [dval] at this ⊢
    omega
theorem digs_dval : ∀ (l : List Nat), (∀ d, d ∈ l → d < 10) → (∀ d, l.getLast? = some d → d ≠ 0) → digs (dval l) = l
  | [], _, _ => digs_zero
  | d :: r, h1, h2 => by
    have hp := dval_pos (d :: r) (by simp) h2
    have hd : d < 10 := h1 d List.mem_cons_self
    have hr := digs_dval r (fun x hx => h1 x (List.mem_cons_of_mem _ hx)) (fun x hx => by
      cases r with
      | nil => cases hx
      | cons e r => exact h2 x (by rw [List.getLast?_cons_cons]; exact hx))
    rw [digs_pos (by omega)]
    have e1 : dval (d :: r) % 10 = d := by simp only [dval]; omega
    have e2 : dval (d :: r) / 10 = dval r := by simp only [dval]; omega
    rw [e1, e2, hr]

end Go.Proofs.YtflhmieeidnpgaaGreatDoor
