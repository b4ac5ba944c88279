/- An item of a group as cells: small facts. -/
import Derived.Test.YtebddgdkndmpjaaGreatDoorGv
import Derived.Deep.CutBlock
import Derived.Deep.RegionLawGrows
import Derived.Deep.Cut
import Derived.Deep.CutRange
import Derived.WalkKit
import Derived.WalkLawsBesides
import Derived.WalkSpells
import Derived.Deep.QuietTactic
import Derived.BigRegion
import Derived.BigQuiet
import Derived.Lib.Hide
import Derived.Outline
import Derived.Deep.AppendLies
import Derived.Deep.RegionLaw
import Derived.Deep.RegionWith
import Derived.Deep.RegionHeld3
import Derived.Deep.LoopGhost
import Derived.Deep.DeepFit
import Derived.Laws.ResultCell
import Derived.Laws.RangeAny
import Derived.Deep.MidRow
import Derived.StillTailTactics
import Derived.OpenShut
namespace Go.Proofs.YtebddgdkndmpjaaGreatDoor
set_option linter.unusedVariables false
open Go.RowKit Go

theorem blkRange {w : World} {g t : Nat} {cs : List Value} (h : Blk w g t cs.toArray) : w.rangeAt g 0 cs := by
  intro j v hj
  rw [Nat.zero_add, h.cell j, List.getElem?_toArray]
  exact hj
theorem inf46 : (Tryz.prog.info? 46).map (·.size) = some 17 := by kernel_rfl
theorem infZ46 : (Tryz.prog.info? 46).map (fun i => (i.zero, i.size, i.bytes)) = some (some (.agg #[.int .i64 0, .string ⟨#[]⟩, .nilIface, .string ⟨#[]⟩, .nilIface, .string ⟨#[]⟩, .nilIface, .int .i64 0, .string ⟨#[]⟩, .slice none 0 0, .string ⟨#[]⟩, .string ⟨#[]⟩, .nilIface, .slice none 0 0, .string ⟨#[]⟩, .string ⟨#[]⟩, .slice none 0 0]), 17, 280) := by kernel_rfl

end Go.Proofs.YtebddgdkndmpjaaGreatDoor
