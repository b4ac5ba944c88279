/- A text's integer, by the library and by the document: plain. -/
import Derived.Test.YtflhmieeidnpgaaGreatDoorHm
import Derived.Test.YtflhmieeidnpgaaGreatDoorIa
namespace Go.Proofs.YtflhmieeidnpgaaGreatDoor
set_option linter.unusedVariables false
open Go.RowKit Go

/-- What digits of a text are worth. -/
def uvalF (acc : Nat) : List UInt8 → Nat
  | [] => acc
  | c :: r => uvalF (acc * 10 + (c.toNat - 48)) r
theorem uvalF_ge : ∀ (l : List UInt8) (acc : Nat), acc ≤ uvalF acc l
  | [], acc => Nat.le_refl _
  | c :: r, acc => by
    have := uvalF_ge r (acc * 10 + (c.toNat - 48))
    unfold uvalF
    omega
theorem parseUintM_val : ∀ (l : List UInt8) (acc : Nat), digB l = true → acc ≤ 18446744073709551615 → Lib.parseUintM 18446744073709551615 acc l = if uvalF acc l ≤ 18446744073709551615 then .ok (uvalF acc l) else .range
  | [], acc, h, ha => by
    unfold uvalF Lib.parseUintM
    rw [if_pos ha]
  | c :: r, acc, h, ha => by
    have h1 : 48 ≤ c.toNat ∧ c.toNat ≤ 57 := digB_iff.1 h c (List.mem_cons_self)
    have h2 : digB r = true := digB_iff.2 (fun b hb => digB_iff.1 h b (List.mem_cons_of_mem _ hb))
    have hg := uvalF_ge r (acc * 10 + (c.toNat - 48))
    unfold Lib.parseUintM uvalF
    rw [if_pos h1]
    by_cases h3 : 1844674407370955162 ≤ acc
    · rw [if_pos h3, if_neg (by omega)]
    · rw [if_neg h3]
      by_cases h4 : 18446744073709551615 < acc * 10 + (c.toNat - 48)
      · rw [if_pos h4, if_neg (by omega)]
      · rw [if_neg h4]
        exact parseUintM_val r _ h2 (by omega)
/-- What a text of digits, with a sign or none, is worth. -/
def sval (l : List UInt8) : Int := if l.head? = some 45 then -(uvalF 0 (unsign l) : Int) else (uvalF 0 (unsign l) : Int)
theorem vParse_val {l : List UInt8} (h1 : unsign l ≠ []) (h2 : digB (unsign l) = true) : vParse l = if -9223372036854775808 ≤ sval l ∧ sval l ≤ 9223372036854775807 then (sval l, 0) else (0, 9) := by
  unfold vParse
  rw [if_neg (by rw [h2]; simp [h1])]
  have e0 : Lib.parseUintB 64 (unsign l) = if uvalF 0 (unsign l) ≤ 18446744073709551615 then .ok (uvalF 0 (unsign l)) else .range := by
    unfold Lib.parseUintB
    rw [if_neg h1]
    exact parseUintM_val _ 0 h2 (Nat.zero_le _)
  cases l with
  | nil => exact absurd rfl h1
  | cons c r =>
    have e1 : (if c.toNat = 43 ∨ c.toNat = 45 then r else c :: r) = unsign (c :: r) := rfl
    have hc : (c :: r).head? = some 45 ↔ c.toNat = 45 := by
      simp only [List.head?_cons, Option.some.injEq]
      constructor
      · intro h
        rw [h]
        rfl
      · intro h
        apply UInt8.toNat_inj.1
        rw [h]
        rfl
    unfold Lib.parseIntB sval
    dsimp only
    rw [e1, e0]
    generalize uvalF 0 (unsign (c :: r)) = u
    by_cases hu : u ≤ 18446744073709551615
    · rw [if_pos hu]
      dsimp only
      by_cases hn : c.toNat = 45
      · rw [if_neg (fun h => h.1 hn), if_pos (hc.2 hn)]
        by_cases hb : 2 ^ (64 - 1) < u
        · rw [if_pos ⟨hn, hb⟩, if_neg (by omega)]
        · rw [if_neg (fun h => hb h.2), if_pos hn, if_pos (by omega)]
      · rw [if_neg (fun h => hn (hc.1 h))]
        by_cases hb : 2 ^ (64 - 1) ≤ u
        · rw [if_pos ⟨hn, hb⟩, if_neg (by omega)]
        · rw [if_neg (fun h => hb h.2), if_neg (fun h => hn h.1), if_neg hn, if_pos (by omega)]
    · rw [if_neg hu]
      dsimp only
      split
      · rw [if_neg (by omega)]
      · rw [if_neg (by omega)]
/-- The digits of a text, the lowest first. -/
def bdigs (l : List UInt8) : List Nat := (l.map (fun c => c.toNat - 48)).reverse
theorem uvalF_digs : ∀ (l : List UInt8) (acc : Nat), uvalF acc l = dval (bdigs l) + 10 ^ l.length * acc
  | [], acc => by
    show acc = 0 + 10 ^ 0 * acc
    omega
  | c :: r, acc => by
    unfold uvalF
    rw [uvalF_digs r]
    unfold bdigs
    rw [List.map_cons, List.reverse_cons, dval_app, List.length_reverse, List.length_map, List.length_cons, Nat.pow_succ, Nat.mul_add]
    have e : 10 ^ r.length * (acc * 10) = 10 ^ r.length * 10 * acc := by rw [Nat.mul_comm acc 10, Nat.mul_assoc]
    have e2 : dval [c.toNat - 48] = c.toNat - 48 := by simp [dval]
    rw [e2, e]
    omega
theorem bdigs_lt {l : List UInt8} (h : digB l = true) : ∀ d, d ∈ bdigs l → d < 10 := by
  intro d hd
  unfold bdigs at hd
  rw [List.mem_reverse, List.mem_map] at hd
  obtain ⟨c, hc, rfl⟩ := hd
  have := digB_iff.1 h c hc
  omega
theorem sval_abs (l : List UInt8) : (sval l).natAbs = dval (bdigs (unsign l)) := by
  have := uvalF_digs (unsign l) 0
  unfold sval
  split <;> omega
/-- A digit, as a byte. -/
def dbyte (d : Nat) : UInt8 := UInt8.ofNat (48 + d)
theorem dec_digs (m : Nat) (h : m ≠ 0) : Lib.decDigits m = (digs m).reverse.map dbyte := by
  induction m using Nat.strongRecOn with
  | _ m ih =>
    rw [Lib.decDigits, digs_pos h]
    by_cases h2 : m < 10
    · rw [dif_pos h2, show m / 10 = 0 by omega, digs_zero, Nat.mod_eq_of_lt h2]
      rfl
    · rw [dif_neg h2, ih (m / 10) (by omega) (by omega), List.reverse_cons, List.map_append]
      rfl
theorem itoa_digs (n : Int) (h : n ≠ 0) : Lib.itoa n = (if n < 0 then [45] else []) ++ (digs n.natAbs).reverse.map dbyte := by
  unfold Lib.itoa
  split
  · rw [dec_digs _ (by omega)]
    rfl
  · rw [dec_digs _ (by omega), show n.toNat = n.natAbs by omega]
    rfl

end Go.Proofs.YtflhmieeidnpgaaGreatDoor
