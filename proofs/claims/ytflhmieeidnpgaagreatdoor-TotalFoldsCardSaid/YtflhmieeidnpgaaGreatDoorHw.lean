/- The document's order of terms: walked. -/
import Derived.Test.YtflhmieeidnpgaaGreatDoorHv
import Derived.Deep.CutBlock
import Derived.Deep.RegionLawGrows
import Derived.Deep.Cut
import Derived.Deep.CutRange
import Derived.WalkKit
import Derived.WalkLawsBesides
import Derived.WalkSpells
import Derived.Deep.QuietTactic
import Derived.BigRegion
import Derived.BigQuiet
import Derived.Lib.Hide
import Derived.Outline
import Derived.Deep.AppendLies
import Derived.Deep.RegionLaw
import Derived.Deep.RegionWith
import Derived.Deep.RegionHeld3
import Derived.Deep.LoopGhost
import Derived.Deep.DeepFit
import Derived.Laws.ResultCell
import Derived.Laws.RangeAny
import Derived.Deep.MidRow
import Derived.StillTailTactics
import Derived.OpenShut
namespace Go.Proofs.YtflhmieeidnpgaaGreatDoor
set_option linter.unusedVariables false
open Go.RowKit Go


/-- The document's order. -/
def dLess (x y : DT) : Bool :=
  if (x.kind != y.kind) = true then decide (x.kind < y.kind) else if (x.text.toList == y.text.toList) = false then Op.bytesLess x.text.toList y.text.toList
  else if (x.type.toList == y.type.toList) = false then Op.bytesLess x.type.toList y.type.toList else Op.bytesLess x.lang.toList y.lang.toList
set_option maxRecDepth 100000 in
set_option maxHeartbeats 4000000 in
theorem dLess_any (x y : DT) (w : World) : Calls Tryz.prog 36 #[.agg x.cells, .agg y.cells] w fun e w' => e = .returned (.bool (dLess x y)) ∧ Fr (fun _ => False) w w' := by
  obtain ⟨xk, xt, xy, xl⟩ := x
  obtain ⟨yk, yt, yy, yl⟩ := y
  unfold dLess DT.cells
  dsimp only
  cases h1 : (xk != yk) with
  | true =>
    rw [if_pos rfl]
    go_enter Tryz.func36, Tryz.ntmps36
    go_wp2_with fail
    go_ret
    exact ⟨rfl, ((Fr.refl _ _).alloc _).alloc _⟩
  | false =>
    rw [if_neg (by decide)]
    cases h2 : (xt.toList == yt.toList) with
    | false =>
      rw [if_pos rfl]
      go_enter Tryz.func36, Tryz.ntmps36
      go_wp2_with fail
      go_ret
      exact ⟨rfl, ((Fr.refl _ _).alloc _).alloc _⟩
    | true =>
      rw [if_neg (by decide)]
      cases h3 : (xy.toList == yy.toList) with
      | false =>
        rw [if_pos rfl]
        go_enter Tryz.func36, Tryz.ntmps36
        go_wp2_with fail
        go_ret
        exact ⟨rfl, ((Fr.refl _ _).alloc _).alloc _⟩
      | true =>
        rw [if_neg (by decide)]
        go_enter Tryz.func36, Tryz.ntmps36
        go_wp2_with fail
        go_ret
        exact ⟨rfl, ((Fr.refl _ _).alloc _).alloc _⟩

end Go.Proofs.YtflhmieeidnpgaaGreatDoor
