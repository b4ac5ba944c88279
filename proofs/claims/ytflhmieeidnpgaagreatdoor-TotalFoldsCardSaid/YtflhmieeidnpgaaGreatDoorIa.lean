/- The document's sums of digits: plain. -/
import Derived.Test.YtflhmieeidnpgaaGreatDoorHy
namespace Go.Proofs.YtflhmieeidnpgaaGreatDoor
set_option linter.unusedVariables false

theorem dval_app : ∀ (a b : List Nat), dval (a ++ b) = dval a + 10 ^ a.length * dval b
  | [], b => by simp [dval]
  | d :: r, b => by
    rw [List.cons_append, dval, dval_app r b, dval, List.length_cons, Nat.pow_succ, Nat.mul_add]
    have : 10 ^ r.length * 10 * dval b = 10 * (10 ^ r.length * dval b) := by rw [Nat.mul_comm (10 ^ r.length) 10, Nat.mul_assoc]
    omega
theorem dval_lt : ∀ (l : List Nat), (∀ d, d ∈ l → d < 10) → dval l < 10 ^ l.length
  | [], _ => by simp [dval]
  | d :: r, h => by
    have h1 := h d List.mem_cons_self
    have h2 := dval_lt r (fun x hx => h x (List.mem_cons_of_mem _ hx))
    rw [dval, List.length_cons, Nat.pow_succ]
    omega
theorem dval_take (l : List Nat) (i : Nat) : dval (l.take (i + 1)) = dval (l.take i) + 10 ^ i * l.getD i 0 := by
  by_cases h : i < l.length
  · rw [List.take_succ_eq_append_getElem h, dval_app, List.length_take, Nat.min_eq_left (Nat.le_of_lt h)]
    simp [dval, List.getD_eq_getElem?_getD, h]
  · rw [List.take_of_length_le (by omega), List.take_of_length_le (by omega)]
    have : l.getD i 0 = 0 := by rw [List.getD_eq_getElem?_getD, List.getElem?_eq_none (by omega)]; rfl
    rw [this]
    omega
theorem dval_nil : ∀ (l : List Nat), (∀ d, d ∈ l → d = 0) → dval l = 0
  | [], _ => rfl
  | d :: r, h => by
    rw [dval, dval_nil r (fun x hx => h x (List.mem_cons_of_mem _ hx)), h d List.mem_cons_self]
theorem getD_lt {l : List Nat} (h : ∀ d, d ∈ l → d < 10) (i : Nat) : l.getD i 0 < 10 := by
  by_cases hi : i < l.length
  · rw [List.getD_eq_getElem?_getD, List.getElem?_eq_getElem hi]
    exact h _ (List.getElem_mem hi)
  · rw [List.getD_eq_getElem?_getD, List.getElem?_eq_none (by omega)]
    exact (by decide : (0 : Nat) < 10)
/-- Where no nought stands ahead any more. -/
theorem trim_end (l : List Nat) (k : Nat) (hk : k ≤ l.length) (hz : ∀ i, k ≤ i → i < l.length → l.getD i 0 = 0) (hd : ∀ d, d ∈ l → d < 10) (he : k = 0 ∨ l.getD (k - 1) 0 ≠ 0) : l.take k = digs (dval l) := by
  have e : dval l = dval (l.take k) := by
    have h := dval_app (l.take k) (l.drop k)
    rw [List.take_append_drop] at h
    have hn : dval (l.drop k) = 0 := dval_nil _ (fun d hd => by
      obtain ⟨i, hi, rfl⟩ := List.getElem_of_mem hd
      rw [List.length_drop] at hi
      have := hz (k + i) (by omega) (by omega)
      rw [List.getD_eq_getElem?_getD, List.getElem?_eq_getElem (by omega)] at this
      rw [List.getElem_drop]
      exact this)
    rw [hn] at h
    omega
  rw [e]
  refine (digs_dval _ (fun d h => hd d (List.mem_of_mem_take h)) (fun d h => ?_)).symm
  rcases he with rfl | he
  · simp at h
  · rw [List.getLast?_eq_getElem?, List.length_take, Nat.min_eq_left hk] at h
    by_cases hk0 : k = 0
    · subst hk0
      simp at h
    · rw [List.getElem?_take_of_lt (by omega)] at h
      rw [List.getD_eq_getElem?_getD, h] at he
      exact he
/-- A digit of a sum. -/
theorem plus_step (out a b : List Nat) (i c : Nat) (hl : out.length = i) (h : dval out + 10 ^ i * c = dval (a.take i) + dval (b.take i)) :
    dval (out ++ [(c + a.getD i 0 + b.getD i 0) % 10]) + 10 ^ (i + 1) * ((c + a.getD i 0 + b.getD i 0) / 10) = dval (a.take (i + 1)) + dval (b.take (i + 1)) := by
  rw [dval_app, hl, dval_take, dval_take, dval, dval, Nat.pow_succ]
  generalize a.getD i 0 = x at *
  generalize b.getD i 0 = y at *
  generalize 10 ^ i = p at *
  have e : c + x + y = (c + x + y) % 10 + 10 * ((c + x + y) / 10) := by omega
  have e2 : p * (c + x + y) = p * ((c + x + y) % 10) + p * 10 * ((c + x + y) / 10) := by
    conv => lhs; rw [e, Nat.mul_add]
    rw [Nat.mul_assoc]
  rw [Nat.mul_add, Nat.mul_add] at e2
  have e3 : p * ((c + x + y) % 10 + 10 * 0) = p * ((c + x + y) % 10) := by simp
  rw [e3]
  omega
/-- A digit of a difference. -/
theorem minus_step (out a b : List Nat) (i c c' d : Nat) (hl : out.length = i) (h : dval out + dval (b.take i) = dval (a.take i) + 10 ^ i * c) (hd : d + c + b.getD i 0 = a.getD i 0 + 10 * c') :
    dval (out ++ [d]) + dval (b.take (i + 1)) = dval (a.take (i + 1)) + 10 ^ (i + 1) * c' := by
  rw [dval_app, hl, dval_take, dval_take, dval, dval, Nat.pow_succ]
  generalize a.getD i 0 = x at *
  generalize b.getD i 0 = y at *
  generalize 10 ^ i = p at *
  have e : p * (d + c + y) = p * (x + 10 * c') := by rw [hd]
  rw [Nat.mul_add, Nat.mul_add, Nat.mul_add, ← Nat.mul_assoc] at e
  have e3 : p * (d + 10 * 0) = p * d := by simp
  rw [e3]
  omega
theorem minus_end (out a b : List Nat) (c : Nat) (hl : out.length = a.length) (hb : b.length ≤ a.length) (hle : dval b ≤ dval a) (hd : ∀ d, d ∈ out → d < 10) (h : dval out + dval (b.take a.length) = dval (a.take a.length) + 10 ^ a.length * c) : dval out = dval a - dval b := by
  rw [List.take_of_length_le hb, List.take_of_length_le (Nat.le_refl _)] at h
  have h2 := dval_lt out hd
  rw [hl] at h2
  cases c with
  | zero => omega
  | succ c =>
    rw [Nat.mul_add] at h
    omega
theorem sizes_lt (a b : List Nat) (k : Nat) (hl : a.length = b.length) (hk : k < a.length) (ha : ∀ d, d ∈ a → d < 10) (hs : ∀ j, k < j → j < a.length → a.getD j 0 = b.getD j 0) (h : a.getD k 0 < b.getD k 0) : dval a < dval b := by
  have e1 := dval_app (a.take (k + 1)) (a.drop (k + 1))
  have e2 := dval_app (b.take (k + 1)) (b.drop (k + 1))
  rw [List.take_append_drop, List.length_take, Nat.min_eq_left (by omega), dval_take] at e1 e2
  have e3 : a.drop (k + 1) = b.drop (k + 1) := by
    apply List.ext_getElem
    · simp [hl]
    · intro i h1 h2
      rw [List.length_drop] at h1
      have := hs (k + 1 + i) (by omega) (by omega)
      rw [List.getD_eq_getElem?_getD, List.getD_eq_getElem?_getD, List.getElem?_eq_getElem (by omega), List.getElem?_eq_getElem (by omega)] at this
      rw [List.getElem_drop, List.getElem_drop]
      exact this
  rw [e3] at e1
  have h3 := dval_lt (a.take k) (fun d h => ha d (List.mem_of_mem_take h))
  rw [List.length_take, Nat.min_eq_left (by omega)] at h3
  have h4 : 10 ^ k * a.getD k 0 + 10 ^ k ≤ 10 ^ k * b.getD k 0 := by
    rw [← Nat.mul_succ]
    exact Nat.mul_le_mul_left _ h
  omega
theorem sizes_eq (a b : List Nat) (hl : a.length = b.length) (hs : ∀ j, j < a.length → a.getD j 0 = b.getD j 0) : a = b := by
  apply List.ext_getElem hl
  intro i h1 h2
  have := hs i h1
  rw [List.getD_eq_getElem?_getD, List.getD_eq_getElem?_getD, List.getElem?_eq_getElem h1, List.getElem?_eq_getElem h2] at this
  exact this
theorem digs_mono : ∀ (m k : Nat), m ≤ k → (digs m).length ≤ (digs k).length := by
  intro m
  induction m using Nat.strongRecOn with
  | _ m ih =>
    intro k hk
    by_cases h : m = 0
    · rw [h, digs_zero]
      exact Nat.zero_le _
    · rw [digs_pos h, digs_pos (n := k) (by omega), List.length_cons, List.length_cons]
      have := ih (m / 10) (by omega) (k / 10) (by omega)
      omega
theorem digs_len_lt {m k : Nat} (h : (digs m).length < (digs k).length) : m < k := by
  rcases Nat.lt_or_ge m k with h1 | h1
  · exact h1
  · have := digs_mono k m h1
    omega
theorem digs_len (j : Nat) : ∀ n, n < 10 ^ j → (digs n).length ≤ j := by
  induction j with
  | zero =>
    intro n h
    have : n = 0 := by simpa using h
    rw [this, digs_zero]
    exact Nat.le_refl _
  | succ j ih =>
    intro n h
    by_cases h0 : n = 0
    · rw [h0, digs_zero]
      exact Nat.zero_le _
    · rw [digs_pos h0, List.length_cons]
      have := ih (n / 10) (by rw [Nat.pow_succ] at h; omega)
      omega
theorem digs_nil {n : Nat} (h : digs n = []) : n = 0 := by
  by_cases h0 : n = 0
  · exact h0
  · rw [digs_pos h0] at h
    cases h

end Go.Proofs.YtflhmieeidnpgaaGreatDoor
