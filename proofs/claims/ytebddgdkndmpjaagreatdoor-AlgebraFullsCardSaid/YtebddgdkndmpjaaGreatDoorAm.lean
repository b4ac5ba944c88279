/- The items of a group that binds literals: plain. -/
import Derived.Test.YtebddgdkndmpjaaGreatDoorAi
import Derived.Deep.CutBlock
import Derived.Deep.RegionLawGrows
import Derived.Deep.Cut
import Derived.Deep.CutRange
import Derived.WalkKit
import Derived.WalkLawsBesides
import Derived.WalkSpells
import Derived.Deep.QuietTactic
import Derived.BigRegion
import Derived.BigQuiet
import Derived.Lib.Hide
import Derived.Outline
import Derived.Deep.AppendLies
import Derived.Deep.RegionLaw
import Derived.Deep.RegionWith
import Derived.Deep.RegionHeld3
import Derived.Deep.LoopGhost
import Derived.Deep.DeepFit
import Derived.Laws.ResultCell
import Derived.Laws.RangeAny
import Derived.Deep.MidRow
import Derived.StillTailTactics
import Derived.OpenShut
namespace Go.Proofs.YtebddgdkndmpjaaGreatDoor
set_option linter.unusedVariables false
open Go.RowKit Go

/-- The cells of the first n items. -/
def lits (n : Nat) : List Value := (List.range n).flatMap fun k => (litItem k).toList

theorem litItem_len (k : Nat) : (litItem k).toList.length = 17 := rfl
theorem lits_step (n : Nat) : lits (n + 1) = lits n ++ (litItem n).toList := by
  unfold lits
  rw [List.range_succ, List.flatMap_append]
  simp
theorem lits_len : ∀ n, (lits n).length = n * 17
  | 0 => rfl
  | n + 1 => by rw [lits_step, List.length_append, lits_len n, litItem_len]; omega
theorem lits_get (i j : Nat) (hj : j < 17) : ∀ n, i < n → (lits n)[i * 17 + j]? = (litItem i)[j]?
  | 0, h => by omega
  | n + 1, h => by
    rw [lits_step]
    have hl := lits_len n
    by_cases hi : i < n
    · rw [List.getElem?_append_left (by omega), lits_get i j hj n hi]
    · have : i = n := by omega
      subst this
      rw [List.getElem?_append_right (by omega), hl, show i * 17 + j - i * 17 = j by omega]
      simp
/-- A row of the items. -/
def ItemsAt (w : World) (B : Nat) (v : Value) (n : Nat) : Prop := w.ownsRow B 46 17 v n (lits n)
theorem ItemsAt.cell {w : World} {B g n cap : Nat} (h : ItemsAt w B (.slice (some ⟨g, 0, none⟩) n cap) n) {i : Nat} (hi : i < n) (j : Nat) (hj : j < 17) : w.cell? ⟨g, i * 17 + j, none⟩ = (litItem i)[j]? := by
  rw [World.ownsRow.cellAt h (i * 17 + j) (by omega), lits_get i j hj n hi]
/-- All the cells of an item. -/
def ItemCells (w : World) (g o k : Nat) : Prop :=
  w.cell? ⟨g, o, none⟩ = some (.int .i64 2) ∧ w.cell? ⟨g, o + 1, none⟩ = some (.string ⟨#[]⟩) ∧ w.cell? ⟨g, o + 2, none⟩ = some .nilIface ∧ w.cell? ⟨g, o + 3, none⟩ = some (.string ⟨#[]⟩) ∧ w.cell? ⟨g, o + 4, none⟩ = some .nilIface ∧
  w.cell? ⟨g, o + 5, none⟩ = some (.string ⟨#[]⟩) ∧ w.cell? ⟨g, o + 6, none⟩ = some .nilIface ∧ w.cell? ⟨g, o + 7, none⟩ = some (.int .i64 0) ∧ w.cell? ⟨g, o + 8, none⟩ = some (.string ⟨#[]⟩) ∧ w.cell? ⟨g, o + 9, none⟩ = some (.slice none 0 0) ∧
  w.cell? ⟨g, o + 10, none⟩ = some (.string ⟨#[]⟩) ∧ w.cell? ⟨g, o + 11, none⟩ = some (.string ⟨#[]⟩) ∧ w.cell? ⟨g, o + 12, none⟩ = some (smallTm k).val ∧ w.cell? ⟨g, o + 13, none⟩ = some (.slice none 0 0) ∧ w.cell? ⟨g, o + 14, none⟩ = some (.string (letters.getD k ByteArray.empty)) ∧
  w.cell? ⟨g, o + 15, none⟩ = some (.string ⟨#[]⟩) ∧ w.cell? ⟨g, o + 16, none⟩ = some (.slice none 0 0)
theorem ItemsAt.cells {w : World} {B g n cap : Nat} (h : ItemsAt w B (.slice (some ⟨g, 0, none⟩) n cap) n) {i : Nat} (hi : i < n) : ItemCells w g (i * 17) i :=
  ⟨h.cell hi 0 (by omega), h.cell hi 1 (by omega), h.cell hi 2 (by omega), h.cell hi 3 (by omega), h.cell hi 4 (by omega), h.cell hi 5 (by omega), h.cell hi 6 (by omega), h.cell hi 7 (by omega), h.cell hi 8 (by omega), h.cell hi 9 (by omega),
    h.cell hi 10 (by omega), h.cell hi 11 (by omega), h.cell hi 12 (by omega), h.cell hi 13 (by omega), h.cell hi 14 (by omega), h.cell hi 15 (by omega), h.cell hi 16 (by omega)⟩
theorem ItemCells.fr {w w' : World} {g o k : Nat} {S : Nat → Prop} (h : ItemCells w g o k) (hf : Fr S w w') (hs : ¬ S g) : ItemCells w' g o k := by
  obtain ⟨h0, h1, h2, h3, h4, h5, h6, h7, h8, h9, h10, h11, h12, h13, h14, h15, h16⟩ := h
  exact ⟨cell_frS hf hs h0, cell_frS hf hs h1, cell_frS hf hs h2, cell_frS hf hs h3, cell_frS hf hs h4, cell_frS hf hs h5, cell_frS hf hs h6, cell_frS hf hs h7, cell_frS hf hs h8, cell_frS hf hs h9, cell_frS hf hs h10, cell_frS hf hs h11, cell_frS hf hs h12, cell_frS hf hs h13, cell_frS hf hs h14, cell_frS hf hs h15, cell_frS hf hs h16⟩
theorem ItemsAt.fr {w w' : World} {B n : Nat} {v : Value} {S : Nat → Prop} (h : ItemsAt w B v n) (hf : Fr S w w') (hs : ∀ j, v.ownBlock = some j → ¬ S j) : ItemsAt w' B v n := ownsRow_fr h hf hs

theorem ItemsAt.range {w : World} {B g n cap : Nat} (h : ItemsAt w B (.slice (some ⟨g, 0, none⟩) n cap) n) {i : Nat} (hi : i < n) : w.rangeAt g (i * 17) [.int .i64 2, .string ⟨#[]⟩, .nilIface, .string ⟨#[]⟩, .nilIface, .string ⟨#[]⟩, .nilIface, .int .i64 0, .string ⟨#[]⟩, .slice none 0 0, .string ⟨#[]⟩, .string ⟨#[]⟩, (smallTm i).val, .slice none 0 0, .string (letters.getD i ByteArray.empty), .string ⟨#[]⟩, .slice none 0 0] := by
  intro j v hj
  have hlt : j < 17 := (List.getElem?_eq_some_iff.1 hj).1
  rw [h.cell hi j hlt]
  rw [← hj]
  unfold litItem
  rw [List.getElem?_toArray]
theorem blk_range {w : World} {g t : Nat} {cs : List Value} (h : Blk w g t cs.toArray) : w.rangeAt g 0 cs := by
  intro j v hj
  rw [Nat.zero_add, h.cell j, List.getElem?_toArray]
  exact hj
theorem info46 : (Tryz.prog.info? 46).map (·.size) = some 17 := by kernel_rfl

end Go.Proofs.YtebddgdkndmpjaaGreatDoor
