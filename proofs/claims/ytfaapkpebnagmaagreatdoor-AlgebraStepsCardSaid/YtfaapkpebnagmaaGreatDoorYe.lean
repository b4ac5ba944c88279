/- Texts of the proof, one behind the other: Zh. -/
import Derived.Test.YtfaapkpebnagmaaGreatDoorTie
import Derived.Test.YtfaapkpebnagmaaGreatDoorCards
import Derived.SevenTiedAt
import Derived.HandedShaped
import Derived.JoinedOf
import Derived.LaidMore
import Derived.Lay
import Derived.LaidOnce
import Derived.Deep.CutBlock
import Derived.Deep.RegionLawGrows
import Derived.Deep.Cut
import Derived.Deep.CutRange
import Derived.WalkKit
import Derived.WalkLawsBesides
import Derived.WalkSpells
import Derived.Deep.QuietTactic
import Derived.BigRegion
import Derived.BigQuiet
import Derived.Lib.Hide
import Derived.Outline
import Derived.Deep.AppendLies
import Derived.Deep.RegionLaw
import Derived.Deep.RegionWith
import Derived.Deep.RegionHeld3
import Derived.Deep.LoopGhost
import Derived.Deep.DeepFit
import Derived.Laws.ResultCell
import Derived.Laws.RangeAny
import Derived.Deep.MidRow
import Derived.StillTailTactics
import Derived.OpenShut
namespace Go.Proofs.YtfaapkpebnagmaaGreatDoor
open _root_.Go.Proofs.Tryz
open Go.RowKit Go
set_option linter.unusedVariables false
set_option maxRecDepth 100000
set_option maxHeartbeats 400000000
theorem goes_of_none {P : Program} (h : P.funcs.any Func.goes = false) (f : FuncId) : P.goes f = false := by
 unfold Program.goes
 rw [h, Bool.and_false, Bool.or_false]
 refine List.any_eq_false.2 fun g _ => ?_
 cases hg : P.funcs[g]? with
 | none => simp
 | some fn =>
  have h1 := Array.any_eq_false.1 h g (Array.getElem?_eq_some_iff.1 hg).1
  rw [(Array.getElem?_eq_some_iff.1 hg).2] at h1
  simpa using h1
theorem goesAt_of_none {P : Program} (h : P.funcs.any Func.goes = false) (n : String) : false = P.goesAt .entering n := by
 unfold Program.goesAt Program.goesFrom
 cases P.funcNamed n with
 | none => rfl
 | some f => simp [goes_of_none h f]
theorem none_goes : Tryz.prog.funcs.any Func.goes = false := by kernel_rfl
theorem jV (over : Rows.AlgebraStepsSaid) : Rows.AlgebraStepsCardSaid :=
 Claim7.holds_tied_plain_at .later [] [.data,.data,.data,.sentinel,.sentinel,.widerDeep,.data,.data,.data] true (true,"77f14815ea590f0fb498ebf5ad799558169224f6c383332bd4f7c0c9d69e8d4e") true
  over (fun _ h => by cases h) (by as_aux_lemma => kernel_rfl) (fun _ h => by cases h) algebraSteps_row_tie rfl ⟨rfl,rfl⟩ (by as_aux_lemma => kernel_rfl) rfl
  (fun f fn hf hfn => by
   obtain rfl : f = 3 := Option.some.inj ((show prog.funcNamed "beck/becklaw16.AlgebraSteps" = some 3 by as_aux_lemma => kernel_rfl).symm.trans hf) |>.symm;obtain rfl : fn = f3 := (Option.some.inj (func3.symm.trans hfn)).symm;exact ⟨by as_aux_lemma => kernel_rfl,fun j t ht => by
    rw [params3] at ht;have hm : t ∈ [22,5] := by have h := Array.mem_of_getElem? ht; simpa using h
    have hall : ([22,5].all fun u => !prog.wantsStandIn u) = true := by as_aux_lemma => kernel_rfl
    exact (show prog.wantsStandIn t = false by simpa using List.all_eq_true.1 hall t hm)⟩)
  (goesAt_of_none none_goes _)
end Go.Proofs.YtfaapkpebnagmaaGreatDoor
