/- The program's order of terms is the document's: plain. -/
import Derived.Test.YtflhmieeidnpgaaGreatDoorHw
namespace Go.Proofs.YtflhmieeidnpgaaGreatDoor
set_option linter.unusedVariables false
open Go.RowKit Go

theorem less_irr : ∀ l : List UInt8, Op.bytesLess l l = false
  | [] => rfl
  | a :: x => by
    simp only [Op.bytesLess, less_irr x]
    simp
theorem less_tot : ∀ x y : List UInt8, Op.bytesLess x y = false → (x == y) = false → Op.bytesLess y x = true
  | [], [], _, h => by simp at h
  | _ :: _, [], _, _ => rfl
  | [], _ :: _, h, _ => by simp [Op.bytesLess] at h
  | a :: x, b :: y, h, hn => by
    simp only [Op.bytesLess, Bool.or_eq_false_iff, decide_eq_false_iff_not, Bool.and_eq_false_iff] at h
    obtain ⟨h1, h2⟩ := h
    by_cases e : a = b
    · subst e
      rcases h2 with h2 | h2
      · simp at h2
      · have hn' : (x == y) = false := by simpa using hn
        simp [Op.bytesLess, less_tot x y h2 hn']
    · have : b < a := by
        rcases Nat.lt_trichotomy a.toNat b.toNat with h | h | h
        · exact absurd (UInt8.lt_iff_toNat_lt.2 h) h1
        · exact absurd (UInt8.toNat_inj.1 h) e
        · exact UInt8.lt_iff_toNat_lt.2 h
      simp [Op.bytesLess, this]
theorem less_asym : ∀ x y : List UInt8, Op.bytesLess x y = true → Op.bytesLess y x = false
  | _, [], h => by cases ‹List UInt8› <;> simp [Op.bytesLess] at h
  | [], _ :: _, _ => rfl
  | a :: x, b :: y, h => by
    simp only [Op.bytesLess, Bool.or_eq_true, decide_eq_true_eq, Bool.and_eq_true, beq_iff_eq] at h
    rcases h with h | ⟨rfl, h⟩
    · have h1 : ¬ b < a := fun h' => by
        have := UInt8.lt_iff_toNat_lt.1 h
        have := UInt8.lt_iff_toNat_lt.1 h'
        omega
      have h2 : (b == a) = false := by
        simp only [beq_eq_false_iff_ne]
        rintro rfl
        have := UInt8.lt_iff_toNat_lt.1 h
        omega
      simp [Op.bytesLess, h1, h2]
    · simp [Op.bytesLess, less_asym x y h]

theorem cmpB_lt (a b : ByteArray) : decide (cmpB a b < 0) = Op.bytesLess a.toList b.toList := by
  unfold cmpB
  cases Op.bytesLess a.toList b.toList with
  | true => rfl
  | false => cases (a.toList == b.toList) <;> rfl
theorem cmpB_eq (a b : ByteArray) : (cmpB a b = 0) ↔ (a.toList == b.toList) = true := by
  unfold cmpB
  cases h : Op.bytesLess a.toList b.toList with
  | true =>
    have hn : (a.toList == b.toList) = false := by
      cases he : (a.toList == b.toList) with
      | false => rfl
      | true =>
        rw [eq_of_beq he, less_irr] at h
        cases h
    rw [hn]
    decide
  | false => cases (a.toList == b.toList) <;> decide
theorem cmpB_gt (a b : ByteArray) : decide (0 < cmpB a b) = Op.bytesLess b.toList a.toList := by
  unfold cmpB
  cases h : Op.bytesLess a.toList b.toList with
  | true =>
    rw [less_asym _ _ h]
    rfl
  | false =>
    cases he : (a.toList == b.toList) with
    | true =>
      rw [eq_of_beq he, less_irr]
      rfl
    | false =>
      rw [less_tot _ _ h he]
      rfl
theorem cmpI_lt (a b : Int) : decide (cmpI a b < 0) = decide (a < b) := by
  unfold cmpI
  by_cases h : a < b
  · simp [h]
  · by_cases h2 : b < a <;> simp [h, h2]
theorem cmpI_gt (a b : Int) : decide (0 < cmpI a b) = decide (b < a) := by
  unfold cmpI
  by_cases h : a < b
  · have : ¬ b < a := by omega
    simp [h, this]
  · by_cases h2 : b < a <;> simp [h, h2]
theorem cmpI_eq (a b : Int) : cmpI a b = 0 ↔ (a != b) = false := by
  unfold cmpI
  by_cases h : a < b
  · have : a ≠ b := by omega
    simp [h, this]
  · by_cases h2 : b < a
    · have : a ≠ b := by omega
      simp [h, h2, this]
    · have : a = b := by omega
      simp [this]

theorem orL_cons (x : Int) (r : List Int) : orL (x :: r) = if x = 0 then orL r else x := rfl
theorem orL_one (x : Int) : orL [x] = x := by
  rw [orL_cons]
  split
  · rename_i h
    rw [h]
    rfl
  · rfl
/-- Less in the program's order is less in the document's. -/
theorem ord_lt (a b : Tm) : decide (a.ord b < 0) = dLess a.ref b.ref := by
  unfold Tm.ord dLess Tm.ref
  dsimp only
  rw [orL_cons, orL_cons, orL_cons, orL_one]
  cases h0 : (a.kind != b.kind) with
  | true =>
    have h : ¬ cmpI a.kind b.kind = 0 := fun h => by
      rw [(cmpI_eq _ _).1 h] at h0
      cases h0
    rw [if_neg h, if_pos rfl, cmpI_lt]
  | false =>
    rw [if_pos ((cmpI_eq _ _).2 h0), if_neg (show ¬ (false = true) by decide)]
    cases h1 : (a.t0.toList == b.t0.toList) with
    | false =>
      have h : ¬ cmpB a.t0 b.t0 = 0 := fun h => by
        rw [(cmpB_eq _ _).1 h] at h1
        cases h1
      rw [if_neg h, if_pos rfl, cmpB_lt]
    | true =>
      rw [if_pos ((cmpB_eq _ _).2 h1), if_neg (show ¬ (true = false) by decide)]
      cases h2 : (a.t1.toList == b.t1.toList) with
      | false =>
        have h : ¬ cmpB a.t1 b.t1 = 0 := fun h => by
          rw [(cmpB_eq _ _).1 h] at h2
          cases h2
        rw [if_neg h, if_pos rfl, cmpB_lt]
      | true => rw [if_pos ((cmpB_eq _ _).2 h2), if_neg (show ¬ (true = false) by decide), cmpB_lt]
/-- Greater in the program's order: the document's less, the other way. -/
theorem ord_gt (a b : Tm) : decide (0 < a.ord b) = dLess b.ref a.ref := by
  unfold Tm.ord dLess Tm.ref
  dsimp only
  have hc : (b.kind != a.kind) = (a.kind != b.kind) := by
    rw [Bool.eq_iff_iff]
    simp only [bne_iff_ne]
    exact ne_comm
  have hb : ∀ x y : ByteArray, (y.toList == x.toList) = (x.toList == y.toList) := fun x y => by
    rw [Bool.eq_iff_iff]
    simp only [beq_iff_eq]
    exact eq_comm
  rw [orL_cons, orL_cons, orL_cons, orL_one, hc, hb a.t0, hb a.t1]
  cases h0 : (a.kind != b.kind) with
  | true =>
    have h : ¬ cmpI a.kind b.kind = 0 := fun h => by
      rw [(cmpI_eq _ _).1 h] at h0
      cases h0
    rw [if_neg h, if_pos rfl, cmpI_gt]
  | false =>
    rw [if_pos ((cmpI_eq _ _).2 h0), if_neg (show ¬ (false = true) by decide)]
    cases h1 : (a.t0.toList == b.t0.toList) with
    | false =>
      have h : ¬ cmpB a.t0 b.t0 = 0 := fun h => by
        rw [(cmpB_eq _ _).1 h] at h1
        cases h1
      rw [if_neg h, if_pos rfl, cmpB_gt]
    | true =>
      rw [if_pos ((cmpB_eq _ _).2 h1), if_neg (show ¬ (true = false) by decide)]
      cases h2 : (a.t1.toList == b.t1.toList) with
      | false =>
        have h : ¬ cmpB a.t1 b.t1 = 0 := fun h => by
          rw [(cmpB_eq _ _).1 h] at h2
          cases h2
        rw [if_neg h, if_pos rfl, cmpB_gt]
      | true => rw [if_pos ((cmpB_eq _ _).2 h2), if_neg (show ¬ (true = false) by decide), cmpB_gt]

abbrev dt0 : DT := ⟨0, ⟨#[]⟩, ⟨#[]⟩, ⟨#[]⟩⟩
/-- The term that the document keeps of the first ones. -/
def dPick (p : DT → DT → Bool) (l : List DT) : Nat → DT
  | 0 => l.getD 0 dt0
  | i + 1 => if p (l.getD i dt0) (dPick p l i) = true then l.getD i dt0 else dPick p l i
theorem getD_ref (l : List Tm) (i : Nat) (h : i < l.length) : (l.map Tm.ref).getD i dt0 = (l.getD i default).ref := by
  simp [List.getD_eq_getElem?_getD, h]
theorem dPick_ref (p : DT → DT → Bool) (q : Tm → Tm → Bool) (l : List Tm) (hpq : ∀ x m, q x m = p x.ref m.ref) (hi : ∀ x, p x x = false) : ∀ i, i < l.length → dPick p (l.map Tm.ref) (i + 1) = (pickTo q l i).ref
  | 0, h => by
    rw [dPick, dPick, hi, if_neg (by decide), getD_ref l 0 h]
    rfl
  | i + 1, h => by
    have h2 := dPick_ref p q l hpq hi i (by omega)
    rw [dPick, h2, getD_ref l (i + 1) h, ← hpq, pickTo_step]
    split <;> rfl
theorem dLess_irr (x : DT) : dLess x x = false := by
  unfold dLess
  simp [less_irr]

end Go.Proofs.YtflhmieeidnpgaaGreatDoor
