/- Integers in texts: plain laws. -/
import Derived.Test.YtflhmieeidnpgaaGreatDoorSp
import Derived.Test.YtflhmieeidnpgaaGreatDoorHg
import Derived.Lib.ParseIntBCases
import Derived.Lib.ItoaMem
import Derived.Laws.RangeAny
namespace Go.Proofs.YtflhmieeidnpgaaGreatDoor
set_option linter.unusedVariables false
open Go.RowKit Go

/-- Is a sign no digit? -/
def offB (r : Nat) : Bool := decide (r < 48) || decide (57 < r)
/-- All are digits. -/
def digB (l : List UInt8) : Bool := l.all (fun b => !offB b.toNat)
theorem digB_iff {l : List UInt8} : digB l = true ↔ ∀ b, b ∈ l → 48 ≤ b.toNat ∧ b.toNat ≤ 57 := by
  unfold digB offB
  rw [List.all_eq_true]
  constructor
  · intro h b hb
    have := h b hb
    simp at this
    omega
  · intro h b hb
    have := h b hb
    simp
    omega
theorem idx_dig (s : ByteArray) : ∀ (f pos : Nat), s.size ≤ f + pos → (Lib.idxFuncFrom offB true s f pos = -1 ↔ ∀ i, pos ≤ i → (h : i < s.size) → 48 ≤ (s[i]'h).toNat ∧ (s[i]'h).toNat ≤ 57)
  | 0, pos, hf => ⟨fun _ i hi h => absurd h (by omega), fun _ => rfl⟩
  | f + 1, pos, hf => by
    unfold Lib.idxFuncFrom
    by_cases hp : pos < s.size
    · rw [if_pos hp]
      by_cases ha : (s[pos]'hp).toNat < 128
      · rw [decode_ascii s pos hp ha]
        dsimp only
        by_cases hd : offB (s[pos]'hp).toNat = true
        · rw [if_pos hd]
          constructor
          · intro h
            omega
          · intro h
            have h2 := h pos (Nat.le_refl _) hp
            unfold offB at hd
            simp at hd
            omega
        · rw [if_neg hd, idx_dig s f (pos + 1) (by omega)]
          have hd2 : 48 ≤ (s[pos]'hp).toNat ∧ (s[pos]'hp).toNat ≤ 57 := by
            unfold offB at hd
            simp at hd
            omega
          constructor
          · intro h i hi hs
            by_cases e : i = pos
            · subst e
              exact hd2
            · exact h i (by omega) hs
          · intro h i hi hs
            exact h i (by omega) hs
      · have hh := (decode_high s pos hp (by omega)).1
        have hd : offB (Utf8.decode s pos).1 = true := by
          unfold offB
          simp
          omega
        rw [if_pos hd]
        constructor
        · intro h
          omega
        · intro h
          have h2 := h pos (Nat.le_refl _) hp
          omega
    · rw [if_neg hp]
      exact ⟨fun _ i hi h => absurd h (by omega), fun _ => rfl⟩
theorem idx_digB (s : ByteArray) : Lib.idxFunc offB true s = -1 ↔ digB s.data.toList = true := by
  unfold Lib.idxFunc
  rw [idx_dig s s.size 0 (by omega), digB_iff]
  constructor
  · intro h b hb
    obtain ⟨i, hi, rfl⟩ := List.getElem_of_mem hb
    exact h i (Nat.zero_le _) (by simpa using hi)
  · intro h i _ hs
    exact h _ (by
      have : (s[i]'hs) = s.data.toList[i]'(by simpa using hs) := by simp; rfl
      rw [this]
      exact List.getElem_mem _)
/-- What stands behind a sign. -/
def unsign (l : List UInt8) : List UInt8 := match l with
  | [] => []
  | c :: r => if c.toNat = 43 ∨ c.toNat = 45 then r else c :: r
/-- The integer of a text, or what is wrong. -/
def vParse (l : List UInt8) : Int × Int :=
  if unsign l = [] ∨ digB (unsign l) = false then (0, 1) else match Lib.parseIntB 64 l with
    | .ok v => (v, 0)
    | _ => (0, 9)
theorem parseUintM_dig (M : Nat) : ∀ (l : List UInt8) (acc : Nat), digB l = true → (∃ v, Lib.parseUintM M acc l = .ok v) ∨ Lib.parseUintM M acc l = .range
  | [], acc, _ => by
    unfold Lib.parseUintM
    exact Or.inl ⟨_, rfl⟩
  | c :: r, acc, h => by
    have h1 : 48 ≤ c.toNat ∧ c.toNat ≤ 57 := digB_iff.1 h c (List.mem_cons_self)
    have h2 : digB r = true := digB_iff.2 (fun b hb => digB_iff.1 h b (List.mem_cons_of_mem _ hb))
    unfold Lib.parseUintM
    rw [if_pos h1]
    split
    · exact Or.inr rfl
    · split
      · exact Or.inr rfl
      · exact parseUintM_dig M r _ h2
theorem parseIntB_dig {l : List UInt8} (h1 : unsign l ≠ []) (h2 : digB (unsign l) = true) : (∃ v, Lib.parseIntB 64 l = .ok v) ∨ Lib.parseIntB 64 l = .range := by
  unfold Lib.parseIntB
  cases l with
  | nil => exact absurd rfl h1
  | cons c r =>
    have e : (if c.toNat = 43 ∨ c.toNat = 45 then r else c :: r) = unsign (c :: r) := rfl
    dsimp only
    rw [e]
    have h3 : (∃ v, Lib.parseUintB 64 (unsign (c :: r)) = .ok v) ∨ Lib.parseUintB 64 (unsign (c :: r)) = .range := by
      unfold Lib.parseUintB
      rw [if_neg h1]
      exact parseUintM_dig _ _ _ h2
    rcases h3 with ⟨u, h4⟩ | h4
    · rw [h4]
      dsimp only
      split
      · first
          | exact Or.inr rfl
          | exact Or.inl ⟨_, rfl⟩
      · split
        · first
            | exact Or.inr rfl
            | exact Or.inl ⟨_, rfl⟩
        · first
            | exact Or.inr rfl
            | exact Or.inl ⟨_, rfl⟩
    · rw [h4]
      exact Or.inr rfl

theorem parseUintM_app (M : Nat) : ∀ (a b : List UInt8) (acc v : Nat), Lib.parseUintM M acc a = .ok v → Lib.parseUintM M acc (a ++ b) = Lib.parseUintM M v b
  | [], b, acc, v, h => by
    have h' : (Lib.NumEnd.ok acc : Lib.NumEnd Nat) = .ok v := h
    cases h'
    rfl
  | c :: r, b, acc, v, h => by
    rw [List.cons_append]
    unfold Lib.parseUintM at h ⊢
    split at h
    · rename_i h1
      rw [if_pos h1]
      split at h
      · cases h
      · rename_i h2
        rw [if_neg h2]
        split at h
        · cases h
        · rename_i h3
          rw [if_neg h3]
          refine (parseUintM_app M r b _ v h).trans ?_
          cases b <;> rfl
    · cases h
theorem dig_byte (d : Nat) (h : d < 10) : (UInt8.ofNat (48 + d)).toNat = 48 + d := by
  rw [UInt8.toNat_ofNat', Nat.mod_eq_of_lt (by omega)]
theorem parse_digits (u : Nat) : u ≤ 18446744073709551615 → Lib.parseUintM 18446744073709551615 0 (Lib.decDigits u) = .ok u := by
  induction u using Nat.strongRecOn with
  | _ u ih =>
    intro hu
    rw [Lib.decDigits]
    by_cases h : u < 10
    · rw [dif_pos h]
      unfold Lib.parseUintM
      rw [dig_byte u h, if_pos (by omega), if_neg (by omega), if_neg (by omega)]
      unfold Lib.parseUintM
      congr 1
      omega
    · rw [dif_neg h, parseUintM_app _ _ _ _ _ (ih (u / 10) (by omega) (by omega))]
      unfold Lib.parseUintM
      rw [dig_byte (u % 10) (by omega), if_pos (by omega), if_neg (by omega), if_neg (by omega)]
      unfold Lib.parseUintM
      congr 1
      omega
theorem digits_dig (u : Nat) : digB (Lib.decDigits u) = true := by
  induction u using Nat.strongRecOn with
  | _ u ih =>
    rw [digB_iff]
    intro b hb
    rw [Lib.decDigits] at hb
    by_cases h : u < 10
    · rw [dif_pos h, List.mem_singleton] at hb
      rw [hb, dig_byte u h]
      omega
    · rw [dif_neg h, List.mem_append, List.mem_singleton] at hb
      rcases hb with hb | hb
      · exact digB_iff.1 (ih (u / 10) (by omega)) b hb
      · rw [hb, dig_byte (u % 10) (by omega)]
        omega
theorem digits_ne (u : Nat) : Lib.decDigits u ≠ [] := by
  rw [Lib.decDigits]
  split
  · simp
  · simp
theorem unsign_digits {l : List UInt8} (h : digB l = true) : unsign l = l := by
  cases l with
  | nil => rfl
  | cons c r =>
    have h1 := digB_iff.1 h c (List.mem_cons_self)
    show (if c.toNat = 43 ∨ c.toNat = 45 then r else c :: r) = c :: r
    rw [if_neg (by omega)]
theorem parseUintB_digits (u : Nat) (h : u ≤ 18446744073709551615) : Lib.parseUintB 64 (Lib.decDigits u) = .ok u := by
  unfold Lib.parseUintB
  rw [if_neg (digits_ne u)]
  exact parse_digits u h
/-- An integer's text is read as it. -/
theorem vParse_itoa (n : Int) (h1 : -9223372036854775808 ≤ n) (h2 : n ≤ 9223372036854775807) : vParse (Lib.itoa n) = (n, 0) := by
  have key : unsign (Lib.itoa n) ≠ [] ∧ digB (unsign (Lib.itoa n)) = true ∧ Lib.parseIntB 64 (Lib.itoa n) = .ok n := by
    unfold Lib.itoa
    by_cases hn : n < 0
    · rw [if_pos hn]
      have e : unsign (45 :: Lib.decDigits n.natAbs) = Lib.decDigits n.natAbs := rfl
      rw [e]
      refine ⟨digits_ne _, digits_dig _, ?_⟩
      unfold Lib.parseIntB
      dsimp only
      rw [if_pos (by decide), parseUintB_digits _ (by omega)]
      dsimp only
      rw [if_neg (fun h => h.1 (by decide)), if_neg (by omega), if_pos (by decide)]
      congr 1
      omega
    · rw [if_neg hn]
      have e : unsign (Lib.decDigits n.toNat) = Lib.decDigits n.toNat := unsign_digits (digits_dig _)
      rw [e]
      refine ⟨digits_ne _, digits_dig _, ?_⟩
      have hu := parseUintB_digits n.toNat (by omega)
      have hd := digits_dig n.toNat
      unfold Lib.parseIntB
      cases hl : Lib.decDigits n.toNat with
      | nil => exact absurd hl (digits_ne _)
      | cons c r =>
        rw [hl] at hu hd
        have hc := digB_iff.1 hd c (List.mem_cons_self)
        dsimp only
        rw [if_neg (by omega), hu]
        dsimp only
        rw [if_neg (by omega), if_neg (by omega), if_neg (by omega)]
        congr 1
        omega
  unfold vParse
  rw [if_neg (by rw [key.2.1]; simp [key.1]), key.2.2]
theorem vParse_bd (l : List UInt8) : -9223372036854775808 ≤ (vParse l).1 ∧ (vParse l).1 ≤ 9223372036854775807 := by
  unfold vParse
  split
  · exact ⟨by decide, by decide⟩
  · cases h : Lib.parseIntB 64 l
    case ok v =>
      have hb := Lib.parseIntB_bounds h
      dsimp only
      omega
    all_goals exact ⟨by decide, by decide⟩
/-- A term's integer, or what is wrong. -/
def asIntT (t : Tm) : Int × Int := match t with
  | .lit a b _ => if (b.toList == xInt.toList) = true then ((vParse a.data.toList).1, if (vParse a.data.toList).2 = 1 then 3 else (vParse a.data.toList).2) else (0, 10)
  | _ => (0, 10)
def intTm (n : Int) : Tm := .lit ⟨(Lib.itoa n).toArray⟩ xInt ⟨#[]⟩
theorem asIntT_int (n : Int) (h1 : -9223372036854775808 ≤ n) (h2 : n ≤ 9223372036854775807) : asIntT (intTm n) = (n, 0) := by
  unfold asIntT intTm
  dsimp only
  rw [if_pos (by simp)]
  have e : (⟨(Lib.itoa n).toArray⟩ : ByteArray).data.toList = Lib.itoa n := by simp
  have hv := vParse_itoa n h1 h2
  simp [hv]
theorem asIntT_bd (t : Tm) : -9223372036854775808 ≤ (asIntT t).1 ∧ (asIntT t).1 ≤ 9223372036854775807 := by
  cases t with
  | bla a => exact (by decide : (-9223372036854775808 : Int) ≤ 0 ∧ (0 : Int) ≤ 9223372036854775807)
  | iri a => exact (by decide : (-9223372036854775808 : Int) ≤ 0 ∧ (0 : Int) ≤ 9223372036854775807)
  | lit a b c =>
    unfold asIntT
    dsimp only
    split
    · exact vParse_bd _
    · exact ⟨by decide, by decide⟩

end Go.Proofs.YtflhmieeidnpgaaGreatDoor
