/- Small integers as terms, a few letters as vars: plain. -/
import Derived.Test.YtebddgdkndmpjaaGreatDoorAc
import Derived.Deep.CutBlock
import Derived.Deep.RegionLawGrows
import Derived.Deep.Cut
import Derived.Deep.CutRange
import Derived.WalkKit
import Derived.WalkLawsBesides
import Derived.WalkSpells
import Derived.Deep.QuietTactic
import Derived.BigRegion
import Derived.BigQuiet
import Derived.Lib.Hide
import Derived.Outline
import Derived.Deep.AppendLies
import Derived.Deep.RegionLaw
import Derived.Deep.RegionWith
import Derived.Deep.RegionHeld3
import Derived.Deep.LoopGhost
import Derived.Deep.DeepFit
import Derived.Laws.ResultCell
import Derived.Laws.RangeAny
import Derived.Deep.MidRow
import Derived.StillTailTactics
import Derived.OpenShut
namespace Go.Proofs.YtebddgdkndmpjaaGreatDoor
set_option linter.unusedVariables false
open Go.RowKit Go

theorem litSmall : ∀ i, i < 10 → litGood ⟨(Lib.decDigits i).toArray⟩ xInt ⟨#[]⟩ = true := by decide +kernel
theorem litSize : ∀ i, i < 10 → (⟨(Lib.decDigits i).toArray⟩ : ByteArray).size ≤ 4096 := by decide +kernel
theorem litInj : ∀ i, i < 10 → ∀ j, j < i → (Lib.decDigits i == Lib.decDigits j) = false := by decide +kernel
def letters : List ByteArray := [⟨#[97]⟩, ⟨#[98]⟩, ⟨#[99]⟩, ⟨#[100]⟩, ⟨#[101]⟩, ⟨#[102]⟩, ⟨#[103]⟩, ⟨#[104]⟩, ⟨#[105]⟩]
theorem let_up : ∀ k, k < 9 → ∀ j, j < 9 → Op.bytesLess (letters.getD k ByteArray.empty).toList (letters.getD j ByteArray.empty).toList = decide (k < j) := by decide +kernel
theorem let_eq : ∀ k, k < 9 → ∀ j, j < 9 → ((letters.getD k ByteArray.empty).toList == (letters.getD j ByteArray.empty).toList) = decide (k = j) := by decide +kernel
theorem let_zz : ∀ k, k < 9 → Op.bytesLess (letters.getD k ByteArray.empty).toList (⟨#[122, 122]⟩ : ByteArray).toList = true := by decide +kernel
theorem let_take (m k : Nat) (hk : k < m) (hm : m ≤ 9) : (letters.take m).getD k ByteArray.empty = letters.getD k ByteArray.empty := by
  rw [List.getD_eq_getElem?_getD, List.getD_eq_getElem?_getD, List.getElem?_take]
  simp [hk]
theorem let_len (m : Nat) (hm : m ≤ 9) : (letters.take m).length = m := by
  rw [List.length_take]
  show min m 9 = m
  omega
theorem isVar_let (m i : Nat) (hi : i < m) (hm : m ≤ 9) : IsVar (letters.take m) (letters.getD i ByteArray.empty) i true := by
  have hl := let_len m hm
  refine ⟨by omega, fun k hk => ?_, fun _ => ?_, fun h => by omega⟩
  · rw [let_take m k (by omega) hm, let_up k (by omega) i (by omega)]
  · rw [let_take m i hi hm, let_eq i (by omega) i (by omega)]
    simp
theorem isVar_zz (m : Nat) (hm : m ≤ 9) : IsVar (letters.take m) ⟨#[122, 122]⟩ m false := by
  have hl := let_len m hm
  refine ⟨by omega, fun k hk => ?_, fun h => by omega, fun _ => rfl⟩
  rw [let_take m k (by omega) hm, let_zz k (by omega)]
  symm
  rw [decide_eq_true_eq]
  omega
theorem let_step (m : Nat) (hm : m < 9) : letters.take (m + 1) = letters.take m ++ [letters.getD m ByteArray.empty] := by
  rw [List.take_add_one, List.getD_eq_getElem?_getD]
  have : m < letters.length := hm
  rw [List.getElem?_eq_getElem this]
  rfl

theorem small_short (i : Nat) (hi : i < 10) : (smallTm i).short := ⟨litSize i hi, by decide, by decide⟩
theorem small_good (i : Nat) (hi : i < 10) : (smallTm i).good = true := litSmall i hi
theorem small_ne {i j : Nat} (hi : i < 10) (hj : j < i) : smallTm i ≠ smallTm j := by
  intro h
  unfold smallTm at h
  injection h with h
  have h2 : Lib.decDigits i = Lib.decDigits j := by
    have := congrArg (fun b : ByteArray => b.data.toList) h
    simpa using this
  have := litInj i hi j hj
  rw [h2] at this
  simp at this
def smalls (n : Nat) : List Tm := (List.range n).map smallTm
theorem smalls_len (n : Nat) : (smalls n).length = n := by unfold smalls; simp
theorem smalls_step (n : Nat) : smalls (n + 1) = smalls n ++ [smallTm n] := by
  unfold smalls
  rw [List.range_succ, List.map_append]
  rfl
theorem idxT_none (t : Tm) : ∀ ts : List Tm, (∀ u, u ∈ ts → t ≠ u) → idxT ts t = none
  | [], _ => rfl
  | u :: us, h => by
    unfold idxT
    rw [if_neg (h u (List.mem_cons_self ..)), idxT_none t us (fun v hv => h v (List.mem_cons_of_mem _ hv))]
    rfl
theorem smalls_new (n : Nat) (hn : n < 10) : idxT (smalls n) (smallTm n) = none := by
  refine idxT_none _ _ fun u hu => ?_
  unfold smalls at hu
  obtain ⟨j, hj, rfl⟩ := List.mem_map.1 hu
  exact small_ne hn (List.mem_range.1 hj)
theorem smalls_put (n : Nat) (room : Int) (hn : n < 10) (hr : (n : Int) < room) : putN (smalls n) (smallTm n) room = n ∧ putE (smalls n) (smallTm n) room = 0 ∧ putL (smalls n) (smallTm n) room = smalls (n + 1) := by
  unfold putN putE putL
  rw [small_good n hn, smalls_new n hn, smalls_len, smalls_step]
  simp only [if_true]
  rw [if_neg (by omega), if_neg (by omega), if_neg (by omega)]
  exact ⟨rfl, rfl, rfl⟩
theorem smalls_full (n : Nat) (room : Int) (hn : n < 10) (hr : room ≤ (n : Int)) : putN (smalls n) (smallTm n) room = 0 ∧ putE (smalls n) (smallTm n) room = 6 ∧ putL (smalls n) (smallTm n) room = smalls n := by
  unfold putN putE putL
  rw [small_good n hn, smalls_new n hn, smalls_len]
  simp only [if_true]
  rw [if_pos hr, if_pos hr, if_pos hr]
  exact ⟨rfl, rfl, rfl⟩
theorem smalls_term (n : Nat) (k : Int) : termN (smalls n) k = if 0 ≤ k ∧ k < (n : Int) then some (smallTm k.toNat) else none := by
  unfold termN smalls
  by_cases h0 : 0 ≤ k
  · rw [if_pos h0, List.getElem?_map]
    by_cases h1 : k < (n : Int)
    · rw [if_pos ⟨h0, h1⟩, List.getElem?_range (by omega)]
      rfl
    · rw [if_neg (fun h => h1 h.2), List.getElem?_eq_none (by simp; omega)]
      rfl
  · rw [if_neg h0, if_neg (fun h => h0 h.1)]

end Go.Proofs.YtebddgdkndmpjaaGreatDoor
