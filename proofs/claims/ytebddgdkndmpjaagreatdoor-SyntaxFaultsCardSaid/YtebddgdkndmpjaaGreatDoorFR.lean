/- Proved: SyntaxFaults, the law on terms that can not be at the beginning of an expression, answers true for every input, and its input reads behind the call as it did. The variables that are listed are laid by the program's own text; beck/syntax.levels is not listed and may hold anything. No other condition. -/
import Derived.Test.YtebddgdkndmpjaaGreatDoorCc
import Derived.Test.YtebddgdkndmpjaaGreatDoorTie
import Derived.Test.YtebddgdkndmpjaaGreatDoorCards
import Derived.SevenTiedAt
import Derived.Test.YtebddgdkndmpjaaGreatDoorFC
import Derived.Test.YtebddgdkndmpjaaGreatDoorFz
import Derived.Deep.CutBlock
import Derived.Deep.RegionLawGrows
import Derived.Deep.Cut
import Derived.Deep.CutRange
import Derived.WalkKit
import Derived.WalkLawsBesides
import Derived.WalkSpells
import Derived.Deep.QuietTactic
import Derived.BigRegion
import Derived.BigQuiet
import Derived.Lib.Hide
import Derived.Outline
import Derived.Deep.AppendLies
import Derived.Deep.RegionLaw
import Derived.Deep.RegionWith
import Derived.Deep.RegionHeld3
import Derived.Deep.LoopGhost
import Derived.Deep.DeepFit
import Derived.Laws.ResultCell
import Derived.Laws.RangeAny
import Derived.Deep.MidRow
import Derived.StillTailTactics
import Derived.OpenShut
namespace Go.Proofs.YtebddgdkndmpjaaGreatDoor
set_option linter.unusedVariables false
open Go.RowKit Go

open Go.ChangeShapes Go.WideShapes Go.ChangeAt
open Go.ChangeMaps (open_string shut_string)

/-- An array of pairs of integers that reads as eight pairs holds them, cell for cell. -/
theorem cells_of_pairs8 {H : Type} {enc : TypeId × Value → H} {P : Program} {w : World} {base : Nat} {sp : Nat → Bool} {held : Bool} {fuel : Nat} {t e e2 : TypeId} {k : IntKind} {cs : List Value} {a0 b0 a1 b1 a2 b2 a3 b3 a4 b4 a5 b5 a6 b6 a7 b7 : Int} {p : List MemPlace}
    (ht : P.underlying t = some (.array 8 e)) (he : P.underlying e = some (.array 2 e2)) (he2 : P.underlying e2 = some (.int k)) (hc2 : P.cellsOf e2 = 1) (hce : P.cellsOf e = 2) (hct : P.cellsOf t = 16)
    (h : DataW.trod enc P w base sp held fuel t cs = some (.agg [Lib.tabData k [a0, b0], Lib.tabData k [a1, b1], Lib.tabData k [a2, b2], Lib.tabData k [a3, b3], Lib.tabData k [a4, b4], Lib.tabData k [a5, b5], Lib.tabData k [a6, b6], Lib.tabData k [a7, b7]], p)) :
    cs = [.int k a0, .int k b0, .int k a1, .int k b1, .int k a2, .int k b2, .int k a3, .int k b3, .int k a4, .int k b4, .int k a5, .int k b5, .int k a6, .int k b6, .int k a7, .int k b7] := by
  cases fuel with
  | zero => simp [DataW.trod] at h
  | succ fuel =>
    simp only [DataW.trod, ht, hce, hct] at h
    split at h
    · rename_i hl
      obtain ⟨xs, hm, hx⟩ := Option.map_eq_some_iff.1 h
      have hxs : xs.map (·.1) = [Lib.tabData k [a0, b0], Lib.tabData k [a1, b1], Lib.tabData k [a2, b2], Lib.tabData k [a3, b3], Lib.tabData k [a4, b4], Lib.tabData k [a5, b5], Lib.tabData k [a6, b6], Lib.tabData k [a7, b7]] := by
        have := congrArg Prod.fst hx
        simpa using this
      have hget : ∀ (i : Nat) (a b : Int), i < 8 → (xs.map (·.1))[i]? = some (Lib.tabData k [a, b] : DataW H) → (cs.drop (i * 2)).take 2 = [.int k a, .int k b] := by
        intro i a b hi hi2
        obtain ⟨y, hb, hf⟩ := Lib.mapM_at hm i i (by simp [hi])
        rw [List.getElem?_map, hb] at hi2
        obtain ⟨d, q⟩ := y
        have hd : d = Lib.tabData k [a, b] := by simpa using hi2
        subst hd
        have h2 := Lib.cells_of_tab (zs := [a, b]) he he2 hc2 hce hf
        simpa using h2
      rw [hxs] at hget
      have g0 := hget 0 a0 b0 (by decide) rfl
      have g1 := hget 1 a1 b1 (by decide) rfl
      have g2 := hget 2 a2 b2 (by decide) rfl
      have g3 := hget 3 a3 b3 (by decide) rfl
      have g4 := hget 4 a4 b4 (by decide) rfl
      have g5 := hget 5 a5 b5 (by decide) rfl
      have g6 := hget 6 a6 b6 (by decide) rfl
      have g7 := hget 7 a7 b7 (by decide) rfl
      have hl16 : cs.length = 16 := by omega
      clear hget h hx hm hxs
      have e0 : cs = cs.take 2 ++ ((cs.drop 2).take 2 ++ ((cs.drop 4).take 2 ++ ((cs.drop 6).take 2 ++ ((cs.drop 8).take 2 ++ ((cs.drop 10).take 2 ++ ((cs.drop 12).take 2 ++ (cs.drop 14).take 2)))))) := by
        rw [List.take_of_length_le (l := cs.drop 14) (by rw [List.length_drop]; omega)]
        have step : ∀ n, cs.drop n = (cs.drop n).take 2 ++ cs.drop (n + 2) := fun n => by
          have h := (List.take_append_drop 2 (cs.drop n)).symm
          rw [List.drop_drop] at h
          exact h
        rw [← step 12, ← step 10, ← step 8, ← step 6, ← step 4, ← step 2]
        exact (List.take_append_drop 2 cs).symm
      rw [e0]
      simp only [Nat.zero_mul, Nat.one_mul, List.drop_zero, Nat.reduceMul] at g0 g1 g2 g3 g4 g5 g6 g7
      rw [g0, g1, g2, g3, g4, g5, g6, g7]
      rfl
    · cases h

/-- What the rows list is what the walk reads of the letters behind a backslash. -/
theorem es_of_laid {W : World} (h : laidMetH Tryz.prog laidN W) : Es W := by
  rw [MakeChecks.laidMetH_plain _ _ _ (by kernel_rfl)] at h
  obtain ⟨ps, ⟨g0, t0, cs0, f0, p0, q0, hg0, ht0, hv0, hd0, ⟨g1, t1, cs1, f1, p1, q1, hg1, ht1, hv1, hd1, ⟨g2, t2, cs2, f2, p2, q2, hg2, ht2, hv2, hd2, ⟨g3, t3, cs3, f3, p3, q3, hg3, ht3, hv3, hd3, ⟨g4, t4, cs4, f4, p4, q4, hg4, ht4, hv4, hd4, ⟨g5, t5, cs5, f5, p5, q5, hg5, ht5, hv5, hd5, hrest⟩, _⟩, _⟩, _⟩, _⟩, _⟩, _, _⟩ := h
  obtain rfl : 1 = g5 := Option.some.inj ((show Tryz.prog.globalNamed "beck/scan.escapes" = some 1 by kernel_rfl).symm.trans hg5)
  obtain rfl : 312 = t5 := Option.some.inj ((show (Tryz.prog.globals[1]?).map (·.type) = some 312 by kernel_rfl).symm.trans ht5)
  have hc := cells_of_pairs8 (e := 311) (e2 := 21) (k := .i32) (a0 := 116) (b0 := 9) (a1 := 110) (b1 := 10) (a2 := 114) (b2 := 13) (a3 := 98) (b3 := 8) (a4 := 102) (b4 := 12) (a5 := 34) (b5 := 34) (a6 := 92) (b6 := 92) (a7 := 39) (b7 := 39) Tryz.underlying312 Tryz.underlying311 Tryz.underlying21 (by kernel_rfl) (by kernel_rfl) (by kernel_rfl) hd5
  unfold Es Lib.TabIs
  rw [show W.var? Tryz.prog "beck/scan.escapes" = some cs5 from hv5]
  congr 1
  exact Array.ext' hc

set_option maxRecDepth 100000 in
theorem syntaxFaults_lifted (os : Os) (started : os.Started) (H : Type) (enc : TypeId × Value → H) :
    ReturnsInHanded {} Tryz.checked os 4 .any (fun w args => (Rows.syntaxFaultsSpec.pre enc Tryz.prog Tryz.f4 [] false w args ∧ laidMetH Tryz.prog laidN w) ∧ sizedMet enc Tryz.prog Tryz.f4 (OpenSpec.ofChange Rows.syntaxFaultsSpec) false w args)
      (Rows.syntaxFaultsSpec.post enc Tryz.prog Tryz.f4 false true false false) := by
  refine handed_shaped (C := Tryz.checked) (X := fun w _ => laidMetH Tryz.prog laidN w) (fun _ _ _ hh h => h.of_heap hh) own_knobN started (by kernel_rfl) Tryz.func4
    (ChangeSpec.witness_shaped (enc := enc) (C := Tryz.checked) (os := os) (X := fun w _ => laidMetH Tryz.prog laidN w) false (World.doorLaid Tryz.prog 400 os) #[.string ⟨#[]⟩] 8 rfl (door_shapedN os _) (by kernel_rfl) (by kernel_rfl) (by kernel_rfl) (door_metN os _)) ?_
  intro W base args ds gs before hsh hval0 hW _ _ hL _
  have hval : ∀ (j : Nat) t v, Tryz.f4.params[j]? = some t → args[j]? = some v → Value.okWide Tryz.prog W .any base t v := hval0
  have hW' := hW
  obtain ⟨p, q, hA0, hV, rfl, hfz, hnd⟩ := hW
  have hA : DataW.TrodAll enc Tryz.prog W 0 (fun _ => true) true Tryz.f4.params.toList args.toList ds p := hA0
  rw [Tryz.params4] at hA hval
  obtain ⟨v0, vs0, d0, ds0, p0, q0, hargs, rfl, rfl, h0, r0⟩ := trodAll_cons hA
  obtain ⟨rfl, rfl, rfl⟩ := trodAll_nil r0
  obtain rfl : args = #[v0] := by cases args; simp_all
  obtain ⟨rfl, rfl⟩ := trodVars_none hV
  obtain ⟨s, rfl, rfl, rfl, hs⟩ := open_string Tryz.underlying9 (hval 0 9 v0 rfl rfl) h0
  clear hA0 hval0
  refine (faultsLaw_any s W hs (sg_of_laid hsh hL) (es_of_laid hL)).mono fun e W' ⟨he, hfr⟩ => ?_
  subst he
  have bel : Below W.heap.size W W' := hfr.below (Nat.le_refl _) (fun _ h => h.elim)
  exact ⟨_, rfl, _, _, _, [], _, [], hW', trodAll_mk1 (shut_bool Tryz.underlying4 _), (trodAll_cons_mk (shut_string Tryz.underlying9 hs) trodAll_mk0), rfl, bel.frame _, fun h => by cases h⟩

theorem syntaxFaults_over : Rows.SyntaxFaultsSaid :=
  OpenClaim.holds_of_wide 4 Tryz.f4 rfl rfl rfl rfl rfl rfl rfl ⟨rfl, rfl, rfl, rfl, rfl⟩ rfl rfl rfl rfl rfl (by as_aux_lemma => kernel_rfl) Tryz.func4 syntaxFaults_closed
    (of_decide_eq_true (by as_aux_lemma => kernel_rfl)) (by unfold Func.isWrapper; first | (rw [if_pos (by decide +kernel)]; kernel_rfl) | (rw [if_neg (by decide +kernel)]; exact ⟨rfl, rfl⟩))
    (fun os started H enc _ => syntaxFaults_lifted os started H enc)

/-- The statement: the tied card. -/
theorem syntaxFaults_holds : Rows.SyntaxFaultsCardSaid :=
  Claim7.holds_tied_plain_at .later [] [.data, .data, .data, .sentinel, .sentinel, .widerDeep, .data] true (true, "69a9c28ec263ecca34beedccf7099dd25044dd49ddcaf31801f7285b88142850") true
    syntaxFaults_over (fun _ h => by cases h) (by as_aux_lemma => kernel_rfl) (fun _ h => by cases h) syntaxFaults_row_tie rfl ⟨rfl, rfl⟩ (by as_aux_lemma => kernel_rfl) rfl
    (fun f fn hf hfn => by
      obtain rfl : f = 4 := Option.some.inj ((show Tryz.prog.funcNamed "beck/becklaw12.SyntaxFaults" = some 4 by as_aux_lemma => kernel_rfl).symm.trans hf) |>.symm
      obtain rfl : fn = Tryz.f4 := (Option.some.inj (Tryz.func4.symm.trans hfn)).symm
      exact ⟨by as_aux_lemma => kernel_rfl, fun j t ht => by
        rw [Tryz.params4] at ht
        have hm : t ∈ [9] := by have h := Array.mem_of_getElem? ht; simpa using h
        have hall : ([9].all fun u => !Tryz.prog.wantsStandIn u) = true := by as_aux_lemma => kernel_rfl
        exact (show Tryz.prog.wantsStandIn t = false by simpa using List.all_eq_true.1 hall t hm)⟩)
    (by as_aux_lemma => kernel_rfl)

#print axioms syntaxFaults_holds

end Go.Proofs.YtebddgdkndmpjaaGreatDoor
