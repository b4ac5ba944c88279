/- The texts of groups in one another: parsed. -/
import Derived.Test.YtebddgdkndmpjaaGreatDoorBw
import Derived.Test.YtebddgdkndmpjaaGreatDoorBn
import Derived.Deep.CutBlock
import Derived.Deep.RegionLawGrows
import Derived.Deep.Cut
import Derived.Deep.CutRange
import Derived.WalkKit
import Derived.WalkLawsBesides
import Derived.WalkSpells
import Derived.Deep.QuietTactic
import Derived.BigRegion
import Derived.BigQuiet
import Derived.Lib.Hide
import Derived.Outline
import Derived.Deep.AppendLies
import Derived.Deep.RegionLaw
import Derived.Deep.RegionWith
import Derived.Deep.RegionHeld3
import Derived.Deep.LoopGhost
import Derived.Deep.DeepFit
import Derived.Laws.ResultCell
import Derived.Laws.RangeAny
import Derived.Deep.MidRow
import Derived.StillTailTactics
import Derived.OpenShut
namespace Go.Proofs.YtebddgdkndmpjaaGreatDoor
set_option linter.unusedVariables false
open Go.RowKit Go

/-- The text of groups in one another, so many opened, so many shut. -/
def nestL (k j : Nat) : List UInt8 := [82, 69, 71, 73, 83, 84, 69, 82, 32, 82, 83, 84, 82, 69, 65, 77, 32, 60, 117, 58, 111, 62, 32, 65, 83, 32, 83, 69, 76, 69, 67, 84, 32, 63, 120, 32, 87, 72, 69, 82, 69, 32] ++ List.replicate k 123 ++ List.replicate j 125
def nestT (k j : Nat) : ByteArray := ⟨(nestL k j).toArray⟩
theorem nest_size (k j : Nat) : (nestT k j).size = 42 + k + j := by
  show (nestL k j).toArray.size = _
  simp [nestL]
  omega
theorem nest_open (k : Nat) : (nestT k 0 ++ ⟨#[123]⟩ : ByteArray) = nestT (k + 1) 0 := by
  apply ByteArray.ext
  rw [ByteArray.data_append]
  apply Array.ext'
  simp [nestT, nestL, List.replicate_succ']
theorem nest_shut (k j : Nat) : (nestT k j ++ ⟨#[125]⟩ : ByteArray) = nestT k (j + 1) := by
  apply ByteArray.ext
  rw [ByteArray.data_append]
  apply Array.ext'
  simp [nestT, nestL, List.replicate_succ']
def NestC (m : Nat) : Prop :=
  QC (txt (nestT (m + 1) (m + 1))) [117, 58, 111] false 8 16 17 25 32 33 35 36 41 ∧ NC (txt (nestT (m + 1) (m + 1))) 33 33 [120] ∧
  (∀ i, i < m + 1 → peekOf (txt (nestT (m + 1) (m + 1))) (42 + i) = 123) ∧ (∀ i, i < m + 1 → peekOf (txt (nestT (m + 1) (m + 1))) (42 + (m + 1) + i) = 125) ∧
  wordAt (txt (nestT (m + 1) (m + 1))) (42 + 2 * (m + 1)) tGR = false ∧ skip (txt (nestT (m + 1) (m + 1))) [0] (skip (txt (nestT (m + 1) (m + 1))) [0] (42 + 2 * (m + 1))) = (txt (nestT (m + 1) (m + 1))).length ∧ skip (txt (nestT (m + 1) (m + 1))) [0] 41 = 42 ∧
  (nestT (m + 1) (m + 1)).data.toList.all (fun c => decide (c.toNat < 128)) = true
instance (m : Nat) : Decidable (NestC m) := by unfold NestC; infer_instance
set_option maxRecDepth 100000 in
theorem nest_c : ∀ m, m < 60 → NestC m := by decide +kernel
theorem nest_of {rs : List Int} : ∀ (d p : Nat), (∀ i, i < d + 1 → peekOf rs (p + i) = 123) → (∀ i, i < d + 1 → peekOf rs (p + (d + 1) + i) = 125) → Nest rs d p (p + 2 * (d + 1))
  | 0, p, h1, h2 => ⟨h1 0 (by omega), h2 0 (by omega), by omega⟩
  | d + 1, p, h1, h2 => by
    refine ⟨h1 0 (by omega), p + 1 + 2 * (d + 1), nest_of d (p + 1) (fun i hi => ?_) (fun i hi => ?_), ?_, by omega⟩
    · have := h1 (i + 1) (by omega)
      rwa [show p + (i + 1) = p + 1 + i by omega] at this
    · have := h2 i (by omega)
      rwa [show p + (d + 1 + 1) + i = p + 1 + (d + 1) + i by omega] at this
    · have := h2 (d + 1) (by omega)
      rwa [show p + (d + 1 + 1) + (d + 1) = p + 1 + 2 * (d + 1) by omega] at this
theorem nest_nest (m : Nat) (hm : m < 60) : Nest (txt (nestT (m + 1) (m + 1))) m 42 (42 + 2 * (m + 1)) := nest_of m 42 (nest_c m hm).2.2.1 (nest_c m hm).2.2.2.1

/-- Groups that may stand in one another, parsed. -/
theorem nest_ok (m : Nat) (hm : m < 40) (w : World) : Calls Tryz.prog 10 #[.string (nestT (m + 1) (m + 1))] w (ParsePost (PQs (fun w B v => GroupAt w B m v) tRS ⟨#[117, 58, 111]⟩ false (selV [120])) w) := by
  have hc := nest_c m (by omega)
  refine parse_ok _ (plaw_pqs (glaw_at m) _ _ _ _) _ _ w (ascii_of hc.2.2.2.2.2.2.2) (by rw [nest_size]; omega) (by rw [nest_size]; omega) hc.2.2.2.2.2.1 (fun b c A w1 _ _ hs1 => ?_)
  refine (query_sc _ (glaw_at m) _ [117, 58, 111] false ⟨#[120]⟩ ⟨#[]⟩ ⟨#[]⟩ _ _ _ _ _ _ _ _ _ (42 + 2 * (m + 1)) false 0 (hc.1.text (by decide) (by decide) uo_good (fun b c A w h => selected_sc [120] b c _ _ A _ w (by decide) hc.2.1.1 hc.2.1.2.1 hc.2.1.name h)) hc.2.2.2.2.1 b c A w1 (fun w2 _ h2 => ?_) hs1).mono (fun _ _ h => q_of_query h)
  unfold GrpAny
  simp only [Bool.false_eq_true, if_false]
  exact group_sc m 40 (by omega) (by omega) b c 41 42 _ A _ w2 hc.2.2.2.2.2.2.1 (nest_nest m (by omega)) h2
/-- Groups that may not. -/
theorem nest_bad (m : Nat) (hm : 40 ≤ m) (hm2 : m < 60) (w : World) : Calls Tryz.prog 10 #[.string (nestT (m + 1) (m + 1))] w (ParseBad 82 w) := by
  have hc := nest_c m hm2
  refine parse_bad 82 _ w (ascii_of hc.2.2.2.2.2.2.2) (by rw [nest_size]; omega) (by rw [nest_size]; omega) (fun b c A w1 _ _ hs1 => ?_)
  refine (query_sc (fun w B v => GroupAt w B m v) (glaw_at m) _ [117, 58, 111] false ⟨#[120]⟩ ⟨#[]⟩ ⟨#[]⟩ _ _ _ _ _ _ _ _ _ (42 + 2 * (m + 1)) true 82 (hc.1.text (by decide) (by decide) uo_good (fun b c A w h => selected_sc [120] b c _ _ A _ w (by decide) hc.2.1.1 hc.2.1.2.1 hc.2.1.name h)) hc.2.2.2.2.1 b c A w1 (fun w2 _ h2 => ?_) hs1).mono (fun _ _ h => t_of_query h)
  unfold GrpAny
  simp only [if_true]
  exact group_deep 40 m (by omega) hm b c 41 42 _ A _ w2 hc.2.2.2.2.2.2.1 (nest_nest m hm2) h2

end Go.Proofs.YtebddgdkndmpjaaGreatDoor
