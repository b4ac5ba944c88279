/- TotalDistincts: plain. -/
import Derived.Test.YtebddgdkndmpjaaGreatDoorEk
import Derived.Test.YtebddgdkndmpjaaGreatDoorEc
import Derived.Test.YtebddgdkndmpjaaGreatDoorGz
import Derived.Test.YtebddgdkndmpjaaGreatDoorHf
import Derived.Deep.CutBlock
import Derived.Deep.RegionLawGrows
import Derived.Deep.Cut
import Derived.Deep.CutRange
import Derived.WalkKit
import Derived.WalkLawsBesides
import Derived.WalkSpells
import Derived.Deep.QuietTactic
import Derived.BigRegion
import Derived.BigQuiet
import Derived.Lib.Hide
import Derived.Outline
import Derived.Deep.AppendLies
import Derived.Deep.RegionLaw
import Derived.Deep.RegionWith
import Derived.Deep.RegionHeld3
import Derived.Deep.LoopGhost
import Derived.Deep.DeepFit
import Derived.Laws.ResultCell
import Derived.Laws.RangeAny
import Derived.Deep.MidRow
import Derived.StillTailTactics
import Derived.OpenShut
namespace Go.Proofs.YtebddgdkndmpjaaGreatDoor
set_option linter.unusedVariables false
open Go.RowKit Go

theorem idxT_lt (t : Tm) : ∀ (ts : List Tm) (j : Nat), idxT ts t = some j → j < ts.length
  | [], j, h => by cases h
  | u :: us, j, h => by
    unfold idxT at h
    split at h
    · injection h with h
      subst h
      exact Nat.succ_pos _
    · obtain ⟨k, hk, rfl⟩ := Option.map_eq_some_iff.1 h
      exact Nat.succ_lt_succ (idxT_lt t us k hk)
theorem putN_le (ts : List Tm) (t : Tm) (room : Int) : putN ts t room ≤ (ts.length : Int) := by
  unfold putN
  split
  · split
    · rename_i j hj
      have := idxT_lt t ts j hj
      omega
    · split <;> omega
  · omega
theorem bRowTo_max (ts : List Tm) (d : D3) : ∀ k, ∀ x ∈ (bRowTo ts d k).xs, x ≤ ((ts.length + k : Nat) : Int)
  | 0, x, h => by cases h
  | k + 1, x, h => by
    have ih := bRowTo_max ts d k
    have hl := bRowTo_ts ts d k
    unfold bRowTo bElem at h
    split at h
    · simp only [List.mem_append, List.mem_singleton] at h
      rcases h with h | rfl
      · have := ih x h
        omega
      · have := putN_le (bRowTo ts d k).ts (toTm (plainT (d.at k))) 1000
        omega
    · simp only [List.mem_append, List.mem_singleton] at h
      rcases h with h | rfl
      · have := ih x h
        omega
      · omega
theorem bTo_max (zs : List D3) : ∀ i, ∀ r ∈ (bTo zs i).rows, ∀ x ∈ r, x ≤ ((3 * i : Nat) : Int)
  | 0, r, h => by cases h
  | i + 1, r, h => by
    have ih := bTo_max zs i
    have hl := (bTo_len zs i).2.2.1
    unfold bTo at h
    simp only [List.mem_append, List.mem_singleton] at h
    rcases h with h | rfl
    · intro x hx
      have := ih r h x hx
      omega
    · intro x hx
      have := bRowTo_max (bTo zs i).ts (zs.getD i default) 3 x hx
      omega
theorem getD_mem {rows : List (List Int)} {i : Nat} (h : i < rows.length) : rows.getD i [] ∈ rows := by
  rw [List.getD_eq_getElem?_getD, List.getElem?_eq_getElem h]
  exact List.getElem_mem h
theorem getD_memI {xs : List Int} {i : Nat} (h : i < xs.length) : xs.getD i 0 ∈ xs := by
  rw [List.getD_eq_getElem?_getD, List.getElem?_eq_getElem h]
  exact List.getElem_mem h
/-- The rows that are built are rows as they may be. -/
theorem bTo_ok (zs : List D3) (n : Nat) (hn : n ≤ 8) : RowsOk 3 (bTo zs n).rows := by
  obtain ⟨h1, _, _, h4⟩ := bTo_len zs n
  have h5 := bTo_max zs n
  refine ⟨by omega, fun i hi => (h4 _ (getD_mem hi)).1, fun i hi k hk => ?_⟩
  have hm := h4 _ (getD_mem hi)
  have hx := getD_memI (xs := (bTo zs n).rows.getD i []) (i := k) (by omega)
  exact ⟨hm.2 _ hx, by have := h5 _ (getD_mem hi) _ hx; omega⟩
/-- Rows, projected, are rows as they may be. -/
theorem proj_ok (pf : Nat → Nat × Bool) (n m : Nat) (rows : List (List Int)) (hok : RowsOk m rows) (hpl : ∀ k, k < n → (pf k).2 = true → (pf k).1 < m) : RowsOk n (rows.map (projRow pf n)) := by
  refine ⟨by rw [List.length_map]; exact hok.1, fun i hi => ?_, fun i hi k hk => ?_⟩
  · rw [List.length_map] at hi
    rw [List.getD_eq_getElem?_getD, List.getElem?_map, List.getElem?_eq_getElem hi]
    exact projRow_len _ _ _
  · rw [List.length_map] at hi
    have e : (rows.map (projRow pf n)).getD i [] = projRow pf n (rows.getD i []) := by
      rw [List.getD_eq_getElem?_getD, List.getElem?_map, List.getD_eq_getElem?_getD, List.getElem?_eq_getElem hi]
      rfl
    rw [e, projRow_get pf n _ hk]
    unfold valN
    cases h : (pf k).2 with
    | true => exact hok.2.2 i hi _ (hpl k hk h)
    | false => simp
theorem keepL_mem (rows : List (List Int)) (keep : Nat → Bool) : ∀ k, k ≤ rows.length → ∀ r ∈ keepL rows keep k, r ∈ rows
  | 0, _, r, h => by cases h
  | k + 1, hk, r, h => by
    rw [keepL_succ] at h
    split at h
    · rcases List.mem_append.1 h with h | h
      · exact keepL_mem rows keep k (by omega) r h
      · rw [List.mem_singleton] at h
        subst h
        exact getD_mem (by omega)
    · exact keepL_mem rows keep k (by omega) r h
theorem keepL_ok (m : Nat) (rows : List (List Int)) (keep : Nat → Bool) (hok : RowsOk m rows) : RowsOk m (keepL rows keep rows.length) := by
  have hl := keepL_len rows keep rows.length
  have hat : ∀ r ∈ rows, r.length = m ∧ ∀ k, k < m → -1 ≤ r.getD k 0 ∧ r.getD k 0 ≤ 1000000 := by
    intro r hr
    obtain ⟨i, hi, rfl⟩ := List.getElem_of_mem hr
    have e : rows.getD i [] = rows[i] := by rw [List.getD_eq_getElem?_getD, List.getElem?_eq_getElem hi]; rfl
    rw [← e]
    exact ⟨hok.2.1 i hi, hok.2.2 i hi⟩
  refine ⟨by have := hok.1; omega, fun i hi => ?_, fun i hi k hk => ?_⟩
  · exact (hat _ (keepL_mem rows keep _ (Nat.le_refl _) _ (getD_mem hi))).1
  · exact (hat _ (keepL_mem rows keep _ (Nat.le_refl _) _ (getD_mem hi))).2 k hk
theorem keepL_all (rows : List (List Int)) (keep : Nat → Bool) : ∀ k, k ≤ rows.length → (∀ i, i < k → keep i = true) → keepL rows keep k = rows.take k
  | 0, _, _ => rfl
  | k + 1, hk, h => by
    rw [keepL_succ, if_pos (h k (by omega)), keepL_all rows keep k (by omega) (fun i hi => h i (by omega)), take_push rows k (by omega)]
theorem keepD_has (rows : List (List Int)) : ∀ k, k ≤ rows.length → ∀ s, hasN (keepL rows (keepD rows) k) s = hasN (rows.take k) s
  | 0, _, s => rfl
  | k + 1, hk, s => by
    have ih := keepD_has rows k (by omega)
    rw [keepL_succ, take_push rows k (by omega), hasN_push]
    cases h : keepD rows k with
    | true => rw [if_pos rfl, hasN_push, ih s]
    | false =>
      rw [if_neg (by decide), ih s]
      unfold keepD at h
      have h2 : hasN (rows.take k) (nameB (rows.getD k [])) = true := by simpa using h
      by_cases e : nameB (rows.getD k []) = s
      · rw [← e, h2]; rfl
      · rw [decide_eq_false e, Bool.or_false]
theorem keepD_fresh (rows : List (List Int)) : ∀ k, k ≤ rows.length → ∀ i, i < (keepL rows (keepD rows) k).length → keepD (keepL rows (keepD rows) k) i = true
  | 0, _, i, hi => by cases hi
  | k + 1, hk, i, hi => by
    have ih := keepD_fresh rows k (by omega)
    have hh := keepD_has rows k (by omega)
    rw [keepL_succ] at hi ⊢
    cases h : keepD rows k with
    | false =>
      rw [h, if_neg (by decide)] at hi
      rw [if_neg (by decide)]
      exact ih i hi
    | true =>
      rw [h, if_pos rfl, List.length_append, List.length_singleton] at hi
      rw [if_pos rfl]
      generalize keepL rows (keepD rows) k = D at *
      have h3 : hasN (rows.take k) (nameB (rows.getD k [])) = false := by
        unfold keepD at h
        simpa using h
      by_cases hl : i < D.length
      · have h1 := ih i hl
        unfold keepD at h1 ⊢
        rw [List.take_append_of_le_length (by omega), List.getD_eq_getElem?_getD, List.getElem?_append_left hl, ← List.getD_eq_getElem?_getD]
        exact h1
      · have he : i = D.length := by omega
        subst he
        unfold keepD
        rw [List.take_append_of_le_length (Nat.le_refl _), List.take_length, List.getD_eq_getElem?_getD, List.getElem?_append_right (Nat.le_refl _), Nat.sub_self]
        show (!hasN D (nameB (rows.getD k []))) = true
        rw [hh, h3]
        rfl
/-- What comes once comes once. -/
theorem keepD_idem (rows : List (List Int)) : keepL (keepL rows (keepD rows) rows.length) (keepD (keepL rows (keepD rows) rows.length)) (keepL rows (keepD rows) rows.length).length = keepL rows (keepD rows) rows.length := by
  rw [keepL_all _ _ _ (Nat.le_refl _) (keepD_fresh rows rows.length (Nat.le_refl _)), List.take_length]
/-- Where the columns stand in the table. -/
def pfCA (k : Nat) : Nat × Bool := if k = 0 then (0, true) else (2, true)
def vABC : List ByteArray := [⟨#[97]⟩, ⟨#[98]⟩, ⟨#[99]⟩]
def vAC : List ByteArray := [⟨#[97]⟩, ⟨#[99]⟩]
theorem sort_ca : sortB (caS.map (·.1)) = vAC := by
  have h : ([[99], [97]] : List (List UInt8)).mergeSort (fun x y => decide (x ≤ y)) = [[97], [99]] := by
    simp [List.mergeSort, List.merge, List.MergeSort.Internal.splitInTwo]
    decide
  show ((([[99], [97]] : List (List UInt8)).mergeSort (fun x y => decide (x ≤ y))).map fun l => (⟨l.toArray⟩ : ByteArray)) = vAC
  rw [h]
  rfl
theorem sort_ac : sortB vAC = vAC := by
  have h : ([[97], [99]] : List (List UInt8)).mergeSort (fun x y => decide (x ≤ y)) = [[97], [99]] := by
    simp [List.mergeSort, List.merge, List.MergeSort.Internal.splitInTwo]
    decide
  show ((([[97], [99]] : List (List UInt8)).mergeSort (fun x y => decide (x ≤ y))).map fun l => (⟨l.toArray⟩ : ByteArray)) = vAC
  rw [h]
  rfl
theorem var_a : IsVar vABC ⟨#[97]⟩ 0 true := by
  constructor
  all_goals decide +kernel
theorem var_c : IsVar vABC ⟨#[99]⟩ 2 true := by
  constructor
  all_goals decide +kernel
theorem var_ca (k : Nat) (hk : k < 2) : IsVar vABC (vAC.getD k ByteArray.empty) (pfCA k).1 (pfCA k).2 := by
  have h : k = 0 ∨ k = 1 := by omega
  rcases h with rfl | rfl
  · exact var_a
  · exact var_c
theorem pl_ca (k : Nat) (hk : k < 2) (_ : (pfCA k).2 = true) : (pfCA k).1 < 3 := by
  have h : k = 0 ∨ k = 1 := by omega
  rcases h with rfl | rfl <;> decide
theorem ac_ne : ∀ j, j + 1 < 2 → ((vAC.getD (j + 1) ByteArray.empty).toList == (vAC.getD j ByteArray.empty).toList) = false := by
  intro j hj
  obtain rfl : j = 0 := by omega
  decide +kernel
theorem ac_less : ∀ k, k + 1 < 2 → Op.bytesLess (vAC.getD k ByteArray.empty).toList (vAC.getD (k + 1) ByteArray.empty).toList = true := by
  intro k hk
  obtain rfl : k = 0 := by omega
  decide +kernel

end Go.Proofs.YtebddgdkndmpjaaGreatDoor
