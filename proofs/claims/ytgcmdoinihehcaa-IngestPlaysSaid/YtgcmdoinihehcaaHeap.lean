/- Plain laws of a binary heap of items, ordered by times and then numbers: no program in sight. -/
namespace Go.Proofs.Ytgcmdoinihehcaa
set_option linter.unusedVariables false

/-- An item: time, number, key. -/
structure Item where
  t : Int
  s : Int
  k0 : Int
  k1 : Int
  k2 : Int

theorem Item.ext' {a b : Item} (h1 : a.t = b.t) (h2 : a.s = b.s) (h3 : a.k0 = b.k0) (h4 : a.k1 = b.k1) (h5 : a.k2 = b.k2) : a = b := by
  cases a; cases b; simp_all

instance : Inhabited Item := ⟨⟨0, 0, 0, 0, 0⟩⟩

/-- 'a' stands ahead of 'b', or beside it. -/
def le (a b : Item) : Prop := a.t < b.t ∨ (a.t = b.t ∧ a.s ≤ b.s)

instance (a b : Item) : Decidable (le a b) := by unfold le; exact inferInstance

theorem le_refl (a : Item) : le a a := by unfold le; omega
theorem le_trans {a b c : Item} (h : le a b) (k : le b c) : le a c := by unfold le at *; omega
theorem le_total (a b : Item) : le a b ∨ le b a := by unfold le; omega
theorem le_of_not {a b : Item} (h : ¬ le a b) : le b a := (le_total a b).resolve_left h

/-- What Go's Less answers. -/
def ltB (a b : Item) : Bool := decide (¬ le b a)

theorem ltB_true {a b : Item} (h : ltB a b = true) : ¬ le b a := by simpa [ltB] using h
theorem ltB_false {a b : Item} (h : ltB a b = false) : le b a := by simpa [ltB] using h

theorem ltB_ne {a b : Item} (h : a.t ≠ b.t) : ltB a b = decide (a.t < b.t) := by
  unfold ltB le; congr 1; simp only [eq_iff_iff]; omega
theorem ltB_eq {a b : Item} (h : a.t = b.t) : ltB a b = decide (a.s < b.s) := by
  unfold ltB le; congr 1; simp only [eq_iff_iff]; omega

/-- Two places change. -/
def swp (q : Array Item) (i j : Nat) : Array Item := (q.setIfInBounds i q[j]!).setIfInBounds j q[i]!

theorem size_swp (q : Array Item) (i j : Nat) : (swp q i j).size = q.size := by simp [swp]

theorem swp_get (q : Array Item) (i j k : Nat) (hi : i < q.size) (hj : j < q.size) :
    (swp q i j)[k]! = if k = j then q[i]! else if k = i then q[j]! else q[k]! := by
  unfold swp
  simp only [getElem!_def, Array.getElem?_setIfInBounds, Array.size_setIfInBounds]
  by_cases h1 : j = k
  · subst h1; simp [hj]
  · by_cases h2 : i = k
    · subst h2; simp [h1, hi, Ne.symm h1]
    · simp [h1, h2, Ne.symm h1, Ne.symm h2]

theorem swp_perm (q : Array Item) (i j : Nat) (hi : i < q.size) (hj : j < q.size) : (swp q i j).toList.Perm q.toList := by
  have e0 : swp q i j = (q.setIfInBounds i q[j]).setIfInBounds j q[i] := by
    unfold swp
    rw [getElem!_pos q i hi, getElem!_pos q j hj]
  have e : swp q i j = q.swap i j hi hj := by
    rw [e0]
    apply Array.ext_getElem?
    intro k
    simp only [Array.getElem?_setIfInBounds, Array.getElem?_swap, Array.size_setIfInBounds]
    by_cases h3 : j = k
    · subst h3; simp [hj]
    · by_cases h4 : i = k
      · subst h4; simp [h3, hi]
      · simp [h3, h4]
  rw [e]
  exact Array.perm_iff_toList_perm.1 (Array.swap_perm hi hj)

def par (k : Nat) : Nat := (k - 1) / 2

theorem par_lt {k : Nat} (h : 0 < k) : par k < k := by unfold par; omega

/-- The first n are a heap. -/
def IsHeap (q : Array Item) (n : Nat) : Prop := ∀ k, 0 < k → k < n → le q[par k]! q[k]!

/-- A heap, but that j may be too small. -/
def UpInv (q : Array Item) (j n : Nat) : Prop :=
  (∀ k, 0 < k → k < n → k ≠ j → le q[par k]! q[k]!) ∧ (∀ k, 0 < k → k < n → par k = j → 0 < j → le q[par j]! q[k]!)

/-- A heap, but that i may be too great. -/
def DownInv (q : Array Item) (i n : Nat) : Prop :=
  (∀ k, 0 < k → k < n → par k ≠ i → le q[par k]! q[k]!) ∧ (∀ k, 0 < k → k < n → par k = i → 0 < i → le q[par i]! q[k]!)

theorem UpInv.done0 {q : Array Item} {n : Nat} (h : UpInv q 0 n) : IsHeap q n := fun k h0 hn => h.1 k h0 hn (by omega)
theorem UpInv.done {q : Array Item} {j n : Nat} (h : UpInv q j n) (hl : le q[par j]! q[j]!) : IsHeap q n := fun k h0 hn => by
  by_cases e : k = j
  · subst e; exact hl
  · exact h.1 k h0 hn e

theorem UpInv.step {q : Array Item} {j n : Nat} (hn : n ≤ q.size) (hj : j < n) (h0 : 0 < j) (h : UpInv q j n) (hl : le q[j]! q[par j]!) :
    UpInv (swp q (par j) j) (par j) n := by
  have hp := par_lt h0
  have G : ∀ k, (swp q (par j) j)[k]! = if k = j then q[par j]! else if k = par j then q[j]! else q[k]! :=
    fun k => swp_get q (par j) j k (by omega) (by omega)
  constructor
  · intro k k0 kn kne
    rw [G, G]
    have hpk := par_lt k0
    by_cases e1 : k = j
    · subst e1
      rw [if_neg (by omega), if_pos rfl, if_pos rfl]
      exact hl
    · rw [if_neg e1, if_neg kne]
      by_cases e2 : par k = j
      · rw [if_pos e2]
        exact h.2 k k0 kn e2 h0
      · rw [if_neg e2]
        by_cases e3 : par k = par j
        · rw [if_pos e3]
          have := h.1 k k0 kn e1
          rw [e3] at this
          exact le_trans hl this
        · rw [if_neg e3]
          exact h.1 k k0 kn e1
  · intro k k0 kn kp pj0
    rw [G, G]
    have hpp := par_lt pj0
    have hpk := par_lt k0
    rw [if_neg (show par (par j) ≠ j by omega), if_neg (show par (par j) ≠ par j by omega)]
    have hgp := h.1 (par j) pj0 (by omega) (by omega)
    by_cases e1 : k = j
    · rw [if_pos e1]; exact hgp
    · rw [if_neg e1, if_neg (by omega)]
      have := h.1 k k0 kn e1
      rw [kp] at this
      exact le_trans hgp this

theorem UpInv.push {q : Array Item} (x : Item) (h : IsHeap q q.size) : UpInv (q.push x) q.size (q.size + 1) := by
  have G : ∀ k, k < q.size → (q.push x)[k]! = q[k]! := fun k hk => by
    simp only [getElem!_def, Array.getElem?_push]
    rw [if_neg (by omega)]
  constructor
  · intro k k0 kn kne
    have := par_lt k0
    rw [G _ (by omega), G _ (by omega)]
    exact h k k0 (by omega)
  · intro k k0 kn kp _
    have := par_lt k0
    omega

theorem par_cases {k i : Nat} (h0 : 0 < k) (h : par k = i) : k = 2 * i + 1 ∨ k = 2 * i + 2 := by unfold par at h; omega
theorem par_l (i : Nat) : par (2 * i + 1) = i := by unfold par; omega
theorem par_r (i : Nat) : par (2 * i + 2) = i := by unfold par; omega

theorem DownInv.leaf {q : Array Item} {i n : Nat} (h : DownInv q i n) (hl : n ≤ 2 * i + 1) : IsHeap q n := fun k h0 hn => by
  refine h.1 k h0 hn fun e => ?_
  have := par_cases h0 e
  omega

theorem DownInv.done {q : Array Item} {i n : Nat} (h : DownInv q i n) (h1 : 2 * i + 1 < n → le q[i]! q[2 * i + 1]!) (h2 : 2 * i + 2 < n → le q[i]! q[2 * i + 2]!) :
    IsHeap q n := fun k h0 hn => by
  by_cases e : par k = i
  · rcases par_cases h0 e with hk | hk
    · subst hk; rw [e]; exact h1 hn
    · subst hk; rw [e]; exact h2 hn
  · exact h.1 k h0 hn e

theorem DownInv.step {q : Array Item} {i j n : Nat} (hn : n ≤ q.size) (hj : j < n) (hc : par j = i) (j0 : 0 < j) (h : DownInv q i n)
    (hl : le q[j]! q[i]!) (hmin : ∀ k, 0 < k → k < n → par k = i → le q[j]! q[k]!) :
    DownInv (swp q i j) j n := by
  have hp := par_lt j0
  have hin : i < q.size := by omega
  have G : ∀ k, (swp q i j)[k]! = if k = j then q[i]! else if k = i then q[j]! else q[k]! :=
    fun k => swp_get q i j k hin (by omega)
  constructor
  · intro k k0 kn kne
    rw [G, G]
    have hpk := par_lt k0
    rw [if_neg kne]
    by_cases e1 : par k = i
    · rw [if_pos e1]
      by_cases e2 : k = j
      · rw [if_pos e2]; exact hl
      · rw [if_neg e2, if_neg (by omega)]
        exact hmin k k0 kn e1
    · rw [if_neg e1]
      have hne : k ≠ j := fun e => e1 (by rw [e]; exact hc)
      rw [if_neg hne]
      by_cases e3 : k = i
      · rw [if_pos e3, e3]
        have i0 : 0 < i := by omega
        exact h.2 j j0 hj hc i0
      · rw [if_neg e3]
        exact h.1 k k0 kn e1
  · intro k k0 kn kp _
    rw [G, G]
    have hpk := par_lt k0
    rw [if_neg (by omega), if_pos hc, if_neg (by omega), if_neg (by omega)]
    have := h.1 k k0 kn (by omega)
    rw [kp] at this
    exact this

/-- The first one of a heap stands ahead of all. -/
theorem IsHeap.min {q : Array Item} {n : Nat} (h : IsHeap q n) : ∀ k, k < n → le q[0]! q[k]! := by
  intro k
  induction k using Nat.strongRecOn with
  | _ k ih =>
    intro hk
    by_cases h0 : k = 0
    · subst h0; exact le_refl _
    · exact le_trans (ih (par k) (par_lt (by omega)) (by have := par_lt (k := k) (by omega); omega)) (h k (by omega) hk)

/-- The first one has gone to the end: what is ahead of it is a heap, but for its first one. -/
theorem IsHeap.swap0 {q : Array Item} {m : Nat} (h : IsHeap q (m + 1)) (hs : q.size = m + 1) : DownInv (swp q 0 m) 0 m := by
  have G : ∀ k, (swp q 0 m)[k]! = if k = m then q[0]! else if k = 0 then q[m]! else q[k]! :=
    fun k => swp_get q 0 m k (by omega) (by omega)
  constructor
  · intro k k0 kn kp
    have := par_lt k0
    rw [G, G, if_neg (by omega), if_neg kp, if_neg (by omega), if_neg (by omega)]
    exact h k k0 (by omega)
  · intro k _ _ _ h0
    omega

theorem swap0_last {q : Array Item} {m : Nat} (hs : q.size = m + 1) : (swp q 0 m)[m]! = q[0]! := by
  rw [swp_get q 0 m m (by omega) (by omega), if_pos rfl]

theorem IsHeap.congr {q r : Array Item} {n : Nat} (h : IsHeap q n) (he : ∀ k, k < n → r[k]! = q[k]!) : IsHeap r n := fun k h0 hn => by
  have := par_lt h0
  rw [he _ hn, he _ (by omega)]
  exact h k h0 hn

theorem IsHeap.pop {q : Array Item} {m : Nat} (h : IsHeap q m) (hs : q.size = m + 1) : IsHeap q.pop q.pop.size := by
  have e : q.pop.size = m := by simp [hs]
  rw [e]
  refine h.congr fun k hk => ?_
  simp only [getElem!_def, Array.getElem?_pop]
  rw [if_pos (by omega)]

theorem isHeap_empty : IsHeap #[] 0 := fun k _ h => by omega

end Go.Proofs.Ytgcmdoinihehcaa
