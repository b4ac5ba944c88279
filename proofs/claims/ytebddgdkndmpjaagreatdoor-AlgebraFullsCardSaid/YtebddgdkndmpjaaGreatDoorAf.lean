/- The bytes that come in, as they are read; the variables that are listed, as the door lays them. -/
import Derived.Test.YtebddgdkndmpjaaGreatDoorAe
import Derived.Test.YtebddgdkndmpjaaGreatDoorRows
import Derived.ProofKit
import Derived.LaidMore
import Derived.Stop.Joined
import Derived.ChangeOld
import Derived.Below
import Derived.Deep.Slices
import Derived.Deep.Strs
import Derived.Lib.SmallJoins
import Derived.Deep.CutBlock
import Derived.Deep.RegionLawGrows
import Derived.Deep.Cut
import Derived.Deep.CutRange
import Derived.WalkKit
import Derived.WalkLawsBesides
import Derived.WalkSpells
import Derived.Deep.QuietTactic
import Derived.BigRegion
import Derived.BigQuiet
import Derived.Lib.Hide
import Derived.Outline
import Derived.Deep.AppendLies
import Derived.Deep.RegionLaw
import Derived.Deep.RegionWith
import Derived.Deep.RegionHeld3
import Derived.Deep.LoopGhost
import Derived.Deep.DeepFit
import Derived.Laws.ResultCell
import Derived.Laws.RangeAny
import Derived.Deep.MidRow
import Derived.StillTailTactics
import Derived.OpenShut
namespace Go.Proofs.YtebddgdkndmpjaaGreatDoor
set_option linter.unusedVariables false
open Go.RowKit Go

open Go.ChangeShapes Go.WideShapes Go.Deep Go.ChangeAt

theorem Tryz.cells5 : Tryz.prog.cellsOf 5 = 1 := by kernel_rfl

section
variable {H : Type} {enc : TypeId × Value → H} {w : World} {base : Nat} {spare : Nat → Bool} {held : Bool}

theorem byte_of {n : Nat} {cs : List Value} {x : DataW H × List MemPlace} {a : Addr} (hc : w.cells? base a 1 = some cs) (h : DataW.trod enc Tryz.prog w base spare held n 5 cs = some x) :
    a.spot = none ∧ ∃ y : Int, w.cell? ⟨a.block, a.off, none⟩ = some (.int .u8 y) ∧ 0 ≤ y ∧ y ≤ 255 := by
  obtain ⟨_, hl, hat⟩ := World.cells?_some hc
  obtain ⟨t, e0, hx, hw⟩ := DataW.trod_int Tryz.underlying5 h
  subst e0
  have c0 := hat 0 (by decide)
  rw [show ([Value.int .u8 t] : List Value)[0]? = some (.int .u8 t) from rfl] at c0
  have hs : a.spot = none := World.cell?_spot c0
  obtain ⟨b, o, sp⟩ := a
  simp only at hs
  subst hs
  rw [Go.WideShapes.add_plain] at c0
  have hb := bounds_u8 hw
  exact ⟨rfl, t, c0, hb.1, hb.2⟩

theorem bytes_in {fuel : Nat} {v : Value} {a : Option Addr} {len cap : Nat} {x : DataW H × List MemPlace} (hv : v = .slice a len cap) (h : DataW.trod enc Tryz.prog w base spare held fuel 86 v.cells.toList = some x) :
    len ≤ maxLen ∧ ∃ xs, IsBytes w a len cap xs := by
  subst hv
  rcases open_slice Tryz.underlying86 h with ⟨hcs, _⟩ | ⟨a', len', cap', m, n, D, Pl, hcs, _, hl, hcm, hm, _, hall⟩
  · simp [Value.cells] at hcs
    obtain ⟨rfl, rfl, rfl⟩ := hcs
    exact ⟨Nat.zero_le _, [], .inl ⟨rfl, rfl, rfl, rfl⟩⟩
  · simp [Value.cells] at hcs
    obtain ⟨rfl, rfl, rfl⟩ := hcs
    have hlm : len ≤ m := by rw [hm]; split <;> omega
    rw [Tryz.cells5] at hall
    have hk : ∀ i, i < len → ∃ y : Int, a'.spot = none ∧ w.cell? ⟨a'.block, a'.off + i, none⟩ = some (.int .u8 y) ∧ 0 ≤ y ∧ y ≤ 255 := fun i hi => by
      obtain ⟨cs', hc', ht'⟩ := hall i (by omega)
      obtain ⟨hs, y, hy⟩ := byte_of hc' ht'
      have hsp : a'.spot = none := by
        obtain ⟨cs0, hc0, ht0⟩ := hall 0 (by omega)
        have := (byte_of hc0 ht0).1
        simpa [Addr.add] using this
      obtain ⟨b, o, sp⟩ := a'
      simp only at hsp
      subst hsp
      rw [Go.WideShapes.add_plain, Nat.mul_one] at hy
      exact ⟨y, rfl, hy⟩
    refine ⟨Nat.le_trans hl hcm, (List.range len).map fun i => if hi : i < len then (hk i hi).choose else 0, .inr ⟨a', rfl, hl, by simp, fun i hi => ?_⟩⟩
    have e : ((List.range len).map fun i => if hi : i < len then (hk i hi).choose else 0).getD i 0 = (hk i hi).choose := by
      simp [List.getD_eq_getElem?_getD, hi]
    rw [e]
    exact (hk i hi).choose_spec
end

theorem own_knob : ownKnob Tryz.prog.godebug = none := by kernel_rfl
theorem laidOut : laidOutB Tryz.prog = true := by kernel_rfl
/-- What the rows list. -/
abbrev laid7 : List (String × DataW Unit) := Rows.algebraEnvsRow.laid
set_option maxRecDepth 100000 in
theorem door_met (os : Os) (args : Array Value) : laidMetH Tryz.prog laid7 ((World.doorLaid Tryz.prog 400 os).forCall (fun _ _ => 0) ⟨#[], args, []⟩).memory :=
  laidMetH_of_parts3 (fuel := 8) (laidMet_of_run' 8 (by kernel_rfl) (by kernel_rfl)) (by kernel_rfl) (by kernel_rfl)
theorem door_shaped (os : Os) (args : Array Value) : ((World.doorLaid Tryz.prog 400 os).forCall (fun _ _ => 0) ⟨#[], args, []⟩).Shaped Tryz.prog := World.shaped_of_RefB (by kernel_rfl) (by kernel_rfl)

end Go.Proofs.YtebddgdkndmpjaaGreatDoor
