/- The document's buffer: laws for Take. -/
import Derived.Test.YtgcmdoinihehcaaWk
import Derived.Test.YtgcmdoinihehcaaAc
import Derived.Test.YtgcmdoinihehcaaPn
import Derived.Test.YtgcmdoinihehcaaPr
import Derived.Deep.CutBlock
import Derived.Deep.RegionLawGrows
import Derived.Deep.Cut
import Derived.Deep.CutRange
import Derived.WalkKit
import Derived.WalkLawsBesides
import Derived.WalkSpells
import Derived.Deep.QuietTactic
import Derived.BigRegion
import Derived.BigQuiet
import Derived.Lib.Hide
import Derived.Outline
import Derived.Deep.AppendLies
import Derived.Deep.RegionLaw
import Derived.Deep.RegionWith
import Derived.Deep.RegionHeld3
import Derived.Deep.LoopGhost
import Derived.Deep.DeepFit
import Derived.Laws.ResultCell
import Derived.Deep.MidRow
import Derived.StillTailTactics
import Derived.OpenShut
namespace Go.Proofs.Ytgcmdoinihehcaa
set_option linter.unusedVariables false
open Go.RowKit Go
theorem row_some {w : World} {B : Nat} {e : TypeId} {size n c : Nat} {A : Addr} {xs : List Value} (h : w.ownsRow B e size (.slice (some A) n c) n xs) : ∃ g, A = ⟨g, 0, none⟩ ∧ B ≤ g ∧ g < w.heap.size ∧ n ≤ c := by
  have hl := row_le h
  rcases h.2 with ⟨h1, _⟩ | ⟨g, cap, cur, h1, hb, hg, _⟩
  · cases h1
  · injection h1 with h2 _ _
    injection h2 with h2
    exact ⟨g, h2, hb, (Array.getElem?_eq_some_iff.1 hg).1, hl⟩
theorem row_none {w : World} {B : Nat} {e : TypeId} {size n c : Nat} {xs : List Value} (h : w.ownsRow B e size (.slice none n c) n xs) : n = 0 ∧ c = 0 := by
  rcases h.2 with ⟨h1, h2⟩ | ⟨g, cap, cur, h1, _⟩
  · injection h1 with _ h3 h4
    exact ⟨h2, h4⟩
  · cases h1

theorem addr_add (g off i : Nat) : (⟨g, off, none⟩ : Addr).add i = ⟨g, off + i, none⟩ := by unfold Addr.add; split <;> simp_all

/-- The row from place j on, as it is taken out of a slice. -/
theorem slice_from {g n c j : Nat} (hj : j ≤ n) (hc : n ≤ c) : ∃ off : Nat, (∀ wx : World, (Instr.slice 52 (.slice (some ⟨g, 0, none⟩) n c) (some (.int .i64 (j : Int))) none none).run Try.prog wx = .ok (.slice (some ⟨g, off, none⟩) (n - j) (c - j)) wx) ∧ (j < n → off = j * 5) := by
  refine ⟨if c = j then 0 else j * 5, fun wx => ?_, fun h => by rw [if_neg (by omega)]⟩
  rw [run_slice_l wx 52 _ n c Try.underlying52 .i64 j (by omega) (by omega)]
  have hs : (sizeOf (Try.prog.elem 52)).run Try.prog wx = .ok 5 wx := by kernel_rfl
  rw [hs]
  by_cases h : c = j
  · simp [Result.andThen, sliced, h]
  · simp [Result.andThen, sliced, h, addr_add]

theorem slice_upto {g n c j : Nat} (hj : j ≤ n) (hc : n ≤ c) (wx : World) : (Instr.slice 52 (.slice (some ⟨g, 0, none⟩) n c) none (some (.int .i64 (j : Int))) (some (.int .i64 (j : Int)))).run Try.prog wx = .ok (.slice (some ⟨g, 0, none⟩) j j) wx := by
  rw [run_slice_hm wx 52 _ n c Try.underlying52 .i64 .i64 j j (by omega) (by omega) (by omega)]
  have hs : (sizeOf (Try.prog.elem 52)).run Try.prog wx = .ok 5 wx := by kernel_rfl
  rw [hs]
  by_cases h : j = 0
  · simp [Result.andThen, sliced, h]
  · simp [Result.andThen, sliced, h, addr_add]

theorem drop_cells {w : World} {B g n c j off : Nat} {O : List Item} (h : w.ownsRow B 73 5 (.slice (some ⟨g, 0, none⟩) n c) n (iCells O)) (hn : n = O.length) (hj : j ≤ n) (ho : j < n → off = j * 5) :
    ∀ i u, (iCells (O.drop j))[i]? = some u → w.cell? ((⟨g, off, none⟩ : Addr).add i) = some u := fun i u hu => by
  have hi := (List.getElem?_eq_some_iff.1 hu).1
  rw [iCells_len, List.length_drop] at hi
  have hjn : j < n := by omega
  have e : iCells O = iCells (O.take j) ++ iCells (O.drop j) := by rw [iCells_append, List.take_append_drop]
  have hadd : (⟨g, off, none⟩ : Addr).add i = ⟨g, j * 5 + i, none⟩ := by rw [ho hjn, addr_add]
  have hl : (iCells (O.take j)).length = j * 5 := by rw [iCells_len, List.length_take]; congr 1; omega
  rw [hadd, World.ownsRow.cellAt h _ (by omega), e, List.getElem?_append_right (by omega), hl, ← hu]
  congr 1
  omega
theorem take_cells {w : World} {B g n c j : Nat} {O : List Item} (h : w.ownsRow B 73 5 (.slice (some ⟨g, 0, none⟩) n c) n (iCells O)) (hn : n = O.length) (hj : j ≤ n) :
    ∀ i u, (iCells (O.take j))[i]? = some u → w.cell? ((⟨g, 0, none⟩ : Addr).add i) = some u := fun i u hu => by
  have hi := (List.getElem?_eq_some_iff.1 hu).1
  have e : iCells O = iCells (O.take j) ++ iCells (O.drop j) := by rw [iCells_append, List.take_append_drop]
  have hl : (iCells (O.take j)).length = j * 5 := by rw [iCells_len, List.length_take]; congr 1; omega
  rw [hl] at hi
  have hadd : (⟨g, 0, none⟩ : Addr).add i = ⟨g, i, none⟩ := by rw [addr_add, Nat.zero_add]
  rw [hadd, World.ownsRow.cellAt h _ (by omega), e, List.getElem?_append_left (by omega), hu]

/-- The row up to place j, its capacity cut. -/
theorem slice_part {w : World} {B n c j : Nat} {A : Option Addr} {O : List Item} (h : w.ownsRow B 73 5 (.slice A n c) n (iCells O)) (hn : n = O.length) (hj : j ≤ n) :
    ∃ ao : Option Addr, (∀ wx : World, (Instr.slice 52 (.slice A n c) none (some (.int .i64 (j : Int))) (some (.int .i64 (j : Int)))).run Try.prog wx = .ok (.slice ao j j) wx) ∧ (ao = none → j = 0 ∧ j = 0) ∧
      ∀ b, ao = some b → ∀ i u, (iCells (O.take j))[i]? = some u → w.cell? (b.add i) = some u := by
  cases A with
  | none =>
    obtain ⟨hn0, hc0⟩ := row_none h
    have hj0 : j = 0 := by omega
    refine ⟨none, fun wx => ?_, fun _ => ⟨hj0, hj0⟩, fun b hb => by cases hb⟩
    rw [run_slice_hm wx 52 _ n c Try.underlying52 .i64 .i64 j j (by omega) (by omega) (by omega)]
    have hs : (sizeOf (Try.prog.elem 52)).run Try.prog wx = .ok 5 wx := by kernel_rfl
    rw [hs]
    simp [Result.andThen, sliced]
  | some a =>
    obtain ⟨g, rfl, -, -, hc⟩ := row_some h
    refine ⟨some ⟨g, 0, none⟩, slice_upto hj hc, (fun h => by cases h), fun b hb => ?_⟩
    cases hb
    exact take_cells h hn hj

theorem ins_cells {x : Item} {O l : List Item} {j : Nat} (h : l = O.take j ++ x :: O.drop j) : iCells (O.take j) ++ itemCells x ++ iCells (O.drop j) = iCells l := by
  rw [h]; simp [iCells]

theorem grow_cells {w : World} {b : Addr} {l : List Value} (o : Obj) (h : ∀ i u, l[i]? = some u → w.cell? (b.add i) = some u) : ∀ i u, l[i]? = some u → (w.alloc o).drew.cell? (b.add i) = some u := fun i u hu => by
  have h1 := h i u hu
  show (w.alloc o).cell? _ = _
  rw [World.cell?_alloc_some _ _ _ (by rw [h1]; rfl), h1]

theorem Blk.cells5 {w : World} {g : Nat} {t : TypeId} {v0 v1 v2 v3 v4 : Value} (h : Blk w g t #[v0, v1, v2, v3, v4]) :
    w.cell? ⟨g, 0, none⟩ = some v0 ∧ w.cell? ⟨g, 1, none⟩ = some v1 ∧ w.cell? ⟨g, 2, none⟩ = some v2 ∧ w.cell? ⟨g, 3, none⟩ = some v3 ∧ w.cell? ⟨g, 4, none⟩ = some v4 :=
  ⟨h.cell 0, h.cell 1, h.cell 2, h.cell 3, h.cell 4⟩

end Go.Proofs.Ytgcmdoinihehcaa
