/- Texts of the proof, one behind the other: Rq0. -/
import Derived.Test.YtfaapkpebnagmaaGreatDoorXa
import Derived.Deep.CutBlock
import Derived.Deep.RegionLawGrows
import Derived.Deep.Cut
import Derived.Deep.CutRange
import Derived.WalkLawsBesides
import Derived.WalkSpells
import Derived.Deep.QuietTactic
import Derived.BigRegion
import Derived.BigQuiet
import Derived.Lib.Hide
import Derived.Outline
import Derived.Deep.RegionLaw
import Derived.Deep.RegionWith
import Derived.Deep.RegionHeld3
import Derived.Deep.LoopGhost
import Derived.Deep.DeepFit
import Derived.Laws.ResultCell
import Derived.Laws.RangeAny
import Derived.Deep.MidRow
import Derived.StillTailTactics
import Derived.OpenShut
namespace Go.Proofs.YtfaapkpebnagmaaGreatDoor
open Go.RowKit Go
set_option linter.unusedVariables false
set_option maxRecDepth 100000
set_option maxHeartbeats 400000000
section
variable {P : Program} {md : Region.Mode} {ops : Array Oper} {Q : Exit → Act → World → Prop} {S : World → Prop} {fuel : Nat} {listed : Array Bool} {a a' : Act} {w : World}
theorem oT (i : Nat) {oi : Oper} {v : Value} (h : wpAnyH P md ops Q S fuel (listed.setIfInBounds i true) a' w)
    (hi : ops[i]? = some oi := by simp only [List.getElem?_toArray,List.getElem?_cons_zero,List.getElem?_cons_succ]; rfl) (hs : Region.noSelect ops = true := by kernel_rfl)
    (hf : Region.free md ops listed i = true := by kernel_rfl) (hr : (Region.ready md ops listed).contains i = true := by kernel_rfl) (hQ : ∀ c a w,Q (.panic c) (a.put oi.dst v) w → Q (.panic c) a w := by exact fun _ _ _ h => h)
    (hw : Region.wanted oi (yielded ops a.tmps) = true := by rfl)
    (hy : ∀ w,S w → (execOp a.eval oi).run P w = .ok (.value v) w := by (intro w hSw; (try dsimp only at hSw); go_simp; all_goals (with_reducible rfl)))
    (hp : a.put oi.dst v = a' := by ((try simp only [Act.put,List.setIfInBounds_toArray,List.set_cons_zero,List.set_cons_succ]); rfl)) (hS : S w := by assumption) : wpAnyH P md ops Q S (fuel + 1) listed a w :=
 wpAnyH_take hi hs hf hr hQ (.inl ⟨hw,hy⟩) hS (hp ▸ h)
theorem oU (i : Nat) {oi : Oper} {v : Value} (h : wpAnyH P md ops Q S fuel (listed.setIfInBounds i true) a' w)
    (hi : ops[i]? = some oi := by simp only [List.getElem?_toArray,List.getElem?_cons_zero,List.getElem?_cons_succ]; rfl) (hs : Region.noSelect ops = true := by kernel_rfl)
    (hf : Region.free md ops listed i = true := by decide +kernel) (hr : (Region.ready md ops listed).contains i = true := by decide +kernel) (hQ : ∀ c a w,Q (.panic c) (a.put oi.dst v) w → Q (.panic c) a w := by exact fun _ _ _ h => h)
    (hw : Region.wanted oi (yielded ops a.tmps) = true := by rfl)
    (hy : ∀ w,S w → (execOp a.eval oi).run P w = .ok (.value v) w := by (intro w hSw; (try dsimp only at hSw); go_simp; all_goals (with_reducible rfl)))
    (hp : a.put oi.dst v = a' := by ((try simp only [Act.put,List.setIfInBounds_toArray,List.set_cons_zero,List.set_cons_succ]); rfl)) (hS : S w := by assumption) : wpAnyH P md ops Q S (fuel + 1) listed a w :=
 wpAnyH_take hi hs hf hr hQ (.inl ⟨hw,hy⟩) hS (hp ▸ h)
theorem oR (rs : List Nat) (h : AllReadyH P md ops Q S fuel listed a w rs) (hr : Region.ready md ops listed = rs := by kernel_rfl) (hne : rs ≠ [] := by simp) : wpAnyH P md ops Q S (fuel + 1) listed a w := wpAnyH_ready hr hne h
theorem oS (rs : List Nat) (h : AllReadyH P md ops Q S fuel listed a w rs) (hr : Region.ready md ops listed = rs := by decide +kernel) (hne : rs ≠ [] := by simp) : wpAnyH P md ops Q S (fuel + 1) listed a w := wpAnyH_ready hr hne h
theorem oC {i : Nat} {o : Oper} {rs : List Nat}
    (h : ∀ K' : Act → World → Prop,Shut (∀ a w,S w → (S w → wpAnyH P md ops Q S fuel (listed.setIfInBounds i true) a w) → K' a w) → if Region.wanted o (yielded ops a.tmps) = true then Oper.wp P o a w K' Q else K' (a.put o.dst undef) w)
    (hs : AllReadyH P md ops Q S fuel listed a w rs) (ho : ops[i]? = some o := by simp only [List.getElem?_toArray,List.getElem?_cons_zero,List.getElem?_cons_succ]; rfl) : AllReadyH P md ops Q S fuel listed a w (i :: rs) := .cons ho h hs
theorem oK {K : Act → World → Prop} (hK : Shut (∀ a w,S w → (S w → wpAnyH P md ops Q S fuel listed a w) → K a w)) (hS : S w) (h : S w → wpAnyH P md ops Q S fuel listed a' w)
    (e : a = a' := by ((try simp only [Act.put,List.setIfInBounds_toArray,List.set_cons_zero,List.set_cons_succ]); rfl)) : K a w := by subst e; exact hK.out _ _ hS h
theorem oD (h : Q .normal a w) (hr : Region.ready md ops listed = [] := by kernel_rfl) : wpAnyH P md ops Q S fuel listed a w := wpAnyH_done hr h _
end
end Go.Proofs.YtfaapkpebnagmaaGreatDoor
