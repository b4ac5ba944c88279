/- Proved: TotalDistincts, the law on DISTINCT, answers true for every input, and its inputs read behind the call as they did. The variables that are listed are laid by the program's own text; beck/syntax.levels is not listed and may hold anything. No other condition. -/
import Derived.Test.YtebddgdkndmpjaaGreatDoorCc
import Derived.Test.YtebddgdkndmpjaaGreatDoorTie
import Derived.Test.YtebddgdkndmpjaaGreatDoorCards
import Derived.SevenTiedAt
import Derived.Test.YtebddgdkndmpjaaGreatDoorEm
import Derived.Test.YtebddgdkndmpjaaGreatDoorEo
import Derived.Deep.CutBlock
import Derived.Deep.RegionLawGrows
import Derived.Deep.Cut
import Derived.Deep.CutRange
import Derived.WalkKit
import Derived.WalkLawsBesides
import Derived.WalkSpells
import Derived.Deep.QuietTactic
import Derived.BigRegion
import Derived.BigQuiet
import Derived.Lib.Hide
import Derived.Outline
import Derived.Deep.AppendLies
import Derived.Deep.RegionLaw
import Derived.Deep.RegionWith
import Derived.Deep.RegionHeld3
import Derived.Deep.LoopGhost
import Derived.Deep.DeepFit
import Derived.Laws.ResultCell
import Derived.Laws.RangeAny
import Derived.Deep.MidRow
import Derived.StillTailTactics
import Derived.OpenShut
namespace Go.Proofs.YtebddgdkndmpjaaGreatDoor
set_option linter.unusedVariables false
open Go.RowKit Go

open Go.ChangeShapes Go.WideShapes Go.ChangeAt

/-- What the rows list is what the walk reads of the powers of ten. -/
theorem tb_of_laid {W : World} (h : laidMetH Tryz.prog laidN W) : Tb W := by
  rw [MakeChecks.laidMetH_plain _ _ _ (by kernel_rfl)] at h
  obtain ⟨ps, ⟨g0, t0, cs0, f0, p0, q0, hg0, ht0, hv0, hd0, ⟨g1, t1, cs1, f1, p1, q1, hg1, ht1, hv1, hd1, ⟨g2, t2, cs2, f2, p2, q2, hg2, ht2, hv2, hd2, hrest⟩, _⟩, _⟩, _, _⟩ := h
  obtain rfl : 3 = g2 := Option.some.inj ((show Tryz.prog.globalNamed "internal/strconv.uint64pow10" = some 3 by kernel_rfl).symm.trans hg2)
  obtain rfl : 346 = t2 := Option.some.inj ((show (Tryz.prog.globals[3]?).map (·.type) = some 346 by kernel_rfl).symm.trans ht2)
  have e : (Rows.laid_internal_strconv_uint64pow10 : DataW Unit) = Lib.tabData .u64 Lib.pow10Tab := by kernel_rfl
  have hd : DataW.trod (fun _ => ()) Tryz.prog W 0 (fun _ => true) false f2 346 cs2.toList = some (Lib.tabData .u64 Lib.pow10Tab, p2) := by rw [← e]; exact hd2
  unfold Tb Lib.TabIs
  rw [show W.var? Tryz.prog "internal/strconv.uint64pow10" = some cs2 from hv2, ← Lib.cells_of_tab (e := 249) (n := 20) Tryz.underlying346 Tryz.underlying249 (by kernel_rfl) (by kernel_rfl) hd]

set_option maxRecDepth 100000 in
theorem totalDistincts_lifted (os : Os) (started : os.Started) (H : Type) (enc : TypeId × Value → H) :
    ReturnsInHanded {} Tryz.checked os 5 .any (fun w args => (Rows.totalDistinctsSpec.pre enc Tryz.prog Tryz.f5 [] false w args ∧ laidMetH Tryz.prog laidN w) ∧ sizedMet enc Tryz.prog Tryz.f5 (OpenSpec.ofChange Rows.totalDistinctsSpec) false w args)
      (Rows.totalDistinctsSpec.post enc Tryz.prog Tryz.f5 false true false false) := by
  refine handed_shaped (C := Tryz.checked) (X := fun w _ => laidMetH Tryz.prog laidN w) (fun _ _ _ hh h => h.of_heap hh) own_knobN started (by kernel_rfl) Tryz.func5
    (ChangeSpec.witness_shaped (enc := enc) (C := Tryz.checked) (os := os) (X := fun w _ => laidMetH Tryz.prog laidN w) false (World.doorLaid Tryz.prog 400 os) #[.slice none 0 0] 8 rfl (door_shapedN os _) (by kernel_rfl) (by kernel_rfl) (by kernel_rfl) (door_metN os _)) ?_
  intro W base args ds gs before hsh hval0 hW _ _ hL _
  have hval : ∀ (j : Nat) t v, Tryz.f5.params[j]? = some t → args[j]? = some v → Value.okWide Tryz.prog W .any base t v := hval0
  have hW' := hW
  obtain ⟨p, q, hA0, hV, rfl, hfz, hnd⟩ := hW
  have hA : DataW.TrodAll enc Tryz.prog W 0 (fun _ => true) true Tryz.f5.params.toList args.toList ds p := hA0
  rw [Tryz.params5] at hA hval
  obtain ⟨v0, vs0, d0, ds0, p0, q0, hargs, rfl, rfl, h0, r0⟩ := trodAll_cons hA
  obtain ⟨rfl, rfl, rfl⟩ := trodAll_nil r0
  obtain rfl : args = #[v0] := by cases args; simp_all
  obtain ⟨rfl, rfl⟩ := trodVars_none hV
  obtain ⟨a1, len1, cap1, rfl⟩ := okWide_slice Tryz.underlying59 (hval 0 59 v0 rfl rfl)
  have k1 := h0
  have lt1 : ∀ x ∈ p0, x.block < W.heap.size := by obtain ⟨m, hm⟩ := k1; exact DataW.trod_lt m _ _ _ hm
  obtain ⟨hlen, z1, w1⟩ : len1 ≤ maxLen ∧ ∃ zs, IsIn W a1 len1 cap1 zs := by
    obtain ⟨fuel, hf⟩ := h0
    exact open_in rfl hf
  clear hA0 hval0
  refine (distinctsLaw_any a1 len1 cap1 z1 W w1 hlen (sg_of_laid hsh hL) (tb_of_laid hL)).mono fun e W' ⟨he, hfr⟩ => ?_
  subst he
  have bel : Below W.heap.size W W' := hfr.below (Nat.le_refl _) (fun _ h => h.elim)
  exact ⟨_, rfl, _, _, _, [], _, [], hW', trodAll_mk1 (shut_bool Tryz.underlying4 _), (trodAll_cons_mk (Below.trod laidOutN (by kernel_rfl) (of_decide_eq_true (by kernel_rfl)) k1 bel lt1) trodAll_mk0), rfl, bel.frame _, fun h => by cases h⟩

theorem totalDistincts_over : Rows.TotalDistinctsSaid :=
  OpenClaim.holds_of_wide 5 Tryz.f5 rfl rfl rfl rfl rfl rfl rfl ⟨rfl, rfl, rfl, rfl, rfl⟩ rfl rfl rfl rfl rfl (by as_aux_lemma => kernel_rfl) Tryz.func5 totalDistincts_closed
    (of_decide_eq_true (by as_aux_lemma => kernel_rfl)) (by unfold Func.isWrapper; first | (rw [if_pos (by decide +kernel)]; kernel_rfl) | (rw [if_neg (by decide +kernel)]; exact ⟨rfl, rfl⟩))
    (fun os started H enc _ => totalDistincts_lifted os started H enc)

/-- The statement: the tied card. -/
theorem totalDistincts_holds : Rows.TotalDistinctsCardSaid :=
  Claim7.holds_tied_plain_at .later [] [.data, .data, .data, .sentinel, .sentinel, .widerDeep, .data] true (true, "69a9c28ec263ecca34beedccf7099dd25044dd49ddcaf31801f7285b88142850") true
    totalDistincts_over (fun _ h => by cases h) (by as_aux_lemma => kernel_rfl) (fun _ h => by cases h) totalDistincts_row_tie rfl ⟨rfl, rfl⟩ (by as_aux_lemma => kernel_rfl) rfl
    (fun f fn hf hfn => by
      obtain rfl : f = 5 := Option.some.inj ((show Tryz.prog.funcNamed "beck/becklaw17.TotalDistincts" = some 5 by as_aux_lemma => kernel_rfl).symm.trans hf) |>.symm
      obtain rfl : fn = Tryz.f5 := (Option.some.inj (Tryz.func5.symm.trans hfn)).symm
      exact ⟨by as_aux_lemma => kernel_rfl, fun j t ht => by
        rw [Tryz.params5] at ht
        have hm : t ∈ [59] := by have h := Array.mem_of_getElem? ht; simpa using h
        have hall : ([59].all fun u => !Tryz.prog.wantsStandIn u) = true := by as_aux_lemma => kernel_rfl
        exact (show Tryz.prog.wantsStandIn t = false by simpa using List.all_eq_true.1 hall t hm)⟩)
    (by as_aux_lemma => kernel_rfl)

#print axioms totalDistincts_holds

end Go.Proofs.YtebddgdkndmpjaaGreatDoor
