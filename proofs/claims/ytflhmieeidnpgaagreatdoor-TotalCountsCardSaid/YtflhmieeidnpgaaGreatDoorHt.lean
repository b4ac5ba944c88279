/- Proved: TotalCounts, the law on the counts and the sums of a table, answers true for every input, and its input reads behind the call as it did. The variables that are listed are laid by the program's own text. No other condition. -/
import Derived.Test.YtflhmieeidnpgaaGreatDoorHs
import Derived.Test.YtflhmieeidnpgaaGreatDoorHk
import Derived.Test.YtflhmieeidnpgaaGreatDoorTie
import Derived.Test.YtflhmieeidnpgaaGreatDoorCards
import Derived.SevenTiedAt
import Derived.Lib.LaidTab
namespace Go.Proofs.YtflhmieeidnpgaaGreatDoor
set_option linter.unusedVariables false
open Go.ChangeShapes Go.WideShapes Go.ChangeAt Go.RowKit

/-- What the rows list is what the walk reads of the library's variables. -/
theorem glob_of_laid {W : World} (h : laidMetH Tryz.prog laid5 W) : Glob W := by
  rw [MakeChecks.laidMetH_plain _ _ _ (by kernel_rfl)] at h
  obtain ⟨ps, ⟨g0, t0, cs0, f0, p0, q0, hg0, ht0, hv0, hd0, ⟨g1, t1, cs1, f1, p1, q1, hg1, ht1, hv1, hd1, ⟨g2, t2, cs2, f2, p2, q2, hg2, ht2, hv2, hd2, ⟨g3, t3, cs3, f3, p3, q3, hg3, ht3, hv3, hd3, _, _⟩, _⟩, _⟩, _⟩, _, _⟩ := h
  obtain rfl : 2 = g2 := Option.some.inj ((show Tryz.prog.globalNamed "internal/strconv.uint64pow10" = some 2 by kernel_rfl).symm.trans hg2)
  obtain rfl : 191 = t2 := Option.some.inj ((show (Tryz.prog.globals[2]?).map (·.type) = some 191 by kernel_rfl).symm.trans ht2)
  obtain rfl : 1 = g3 := Option.some.inj ((show Tryz.prog.globalNamed "strconv.ErrRange" = some 1 by kernel_rfl).symm.trans hg3)
  obtain rfl : 148 = t3 := Option.some.inj ((show (Tryz.prog.globals[1]?).map (·.type) = some 148 by kernel_rfl).symm.trans ht3)
  refine ⟨?_, ?_⟩
  · obtain ⟨ms, hms⟩ : ∃ ms, Tryz.prog.underlying 148 = some (.interface ms) := ⟨_, Tryz.underlying148⟩
    obtain ⟨_, u, v, hcs, _, _⟩ := iface_of_trod hms (show DataW.trod (fun _ => ()) Tryz.prog W 0 (fun _ => true) false f3 148 cs3.toList = some (.iface "*errors.errorString" (.ptr (.agg [.lit (.string [118, 97, 108, 117, 101, 32, 111, 117, 116, 32, 111, 102, 32, 114, 97, 110, 103, 101])])), p3) from hd3)
    exact ⟨u, v, by rw [hv3, Array.eq_one_of_toList hcs]⟩
  · have e : (Rows.laid_internal_strconv_uint64pow10 : DataW Unit) = Lib.tabData .u64 Lib.pow10Tab := by kernel_rfl
    have hd : DataW.trod (fun _ => ()) Tryz.prog W 0 (fun _ => true) false f2 191 cs2.toList = some (Lib.tabData .u64 Lib.pow10Tab, p2) := by rw [← e]; exact hd2
    unfold Lib.TabIs
    rw [show W.var? Tryz.prog "internal/strconv.uint64pow10" = some cs2 from hv2, ← Lib.cells_of_tab (e := 127) (n := 20) Tryz.underlying191 Tryz.underlying127 (by kernel_rfl) (by kernel_rfl) hd]

set_option maxRecDepth 100000 in
theorem totalCounts_lifted (os : Os) (started : os.Started) (H : Type) (enc : TypeId × Value → H) :
    ReturnsInHanded {} Tryz.checked os 5 .any (fun w args => (Rows.totalCountsSpec.pre enc Tryz.prog Tryz.f5 [] false w args ∧ laidMetH Tryz.prog laid5 w) ∧ sizedMet enc Tryz.prog Tryz.f5 (OpenSpec.ofChange Rows.totalCountsSpec) false w args)
      (Rows.totalCountsSpec.post enc Tryz.prog Tryz.f5 false true false false) := by
  refine returnsInHanded_of_change_and (C := Tryz.checked) (X := fun w _ => laidMetH Tryz.prog laid5 w) (fun _ _ _ hh h => h.of_heap hh) own_knob started (by kernel_rfl) Tryz.func5
    (ChangeSpec.witness_shaped (enc := enc) (C := Tryz.checked) (os := os) (X := fun w _ => laidMetH Tryz.prog laid5 w) false (World.doorLaid Tryz.prog 72 os) #[.int .u8 0, .slice none 0 0] 8 rfl (door_shaped os _) (by kernel_rfl) (by kernel_rfl) (by kernel_rfl) (door_met os _)) ?_
  intro W base args ds gs before hval0 hW _ _ hL _
  have hval : ∀ (j : Nat) t v, Tryz.f5.params[j]? = some t → args[j]? = some v → Value.okWide Tryz.prog W .any base t v := hval0
  have hW' := hW
  obtain ⟨p, q, hA0, hV, rfl, hfz, hnd⟩ := hW
  have hA : DataW.TrodAll enc Tryz.prog W 0 (fun _ => true) true Tryz.f5.params.toList args.toList ds p := hA0
  rw [Tryz.params5] at hA hval
  obtain ⟨v0, vs0, d0, ds0, p0, q0, hargs, rfl, rfl, h0, r0⟩ := trodAll_cons hA
  obtain ⟨v1, vs1, d1, ds1, p1, q1, rfl, rfl, rfl, h1, r1⟩ := trodAll_cons r0
  obtain ⟨rfl, rfl, rfl⟩ := trodAll_nil r1
  obtain rfl : args = #[v0, v1] := by cases args; simp_all
  obtain ⟨rfl, rfl⟩ := trodVars_none hV
  obtain ⟨a0, rfl, rfl, rfl, w0⟩ := open_int Tryz.underlying5 (hval 0 5 v0 rfl rfl) h0
  obtain ⟨a1, len1, cap1, rfl⟩ := okWide_slice Tryz.underlying23 (hval 1 23 v1 rfl rfl)
  have k1 := h1
  have lt1 : ∀ x ∈ p1, x.block < W.heap.size := by obtain ⟨m, hm⟩ := k1; exact DataW.trod_lt m _ _ _ hm
  obtain ⟨hlen, z1, w1⟩ : len1 ≤ maxLen ∧ ∃ zs, IsIn W a1 len1 cap1 zs := by
    obtain ⟨fuel, hf⟩ := h1
    exact open_in rfl hf
  have hb := bounds_u8 w0
  clear hA0 hval0
  refine (countsLaw_any a0 hb.1 hb.2 a1 len1 cap1 z1 W w1 hlen (glob_of_laid hL)).mono fun e W' ⟨he, hfr⟩ => ?_
  subst he
  have bel : Below W.heap.size W W' := hfr.below (Nat.le_refl _) (fun _ h => h.elim)
  exact ⟨_, rfl, _, _, _, [], _, [], hW', trodAll_mk1 (shut_bool Tryz.underlying4 _), (trodAll_cons_mk (shut_int Tryz.underlying5 w0) (trodAll_cons_mk (Below.trod laidOut (by kernel_rfl) (of_decide_eq_true (by kernel_rfl)) k1 bel lt1) trodAll_mk0)), rfl, bel.frame _, fun h => by cases h⟩

theorem totalCounts_over : Rows.TotalCountsSaid :=
  OpenClaim.holds_of_wide 5 Tryz.f5 rfl rfl rfl rfl rfl rfl rfl ⟨rfl, rfl, rfl, rfl, rfl⟩ rfl rfl rfl rfl rfl (by kernel_rfl) Tryz.func5 (by kernel_rfl)
    (of_decide_eq_true (by kernel_rfl)) (by unfold Func.isWrapper; first | (rw [if_pos (by decide +kernel)]; kernel_rfl) | (rw [if_neg (by decide +kernel)]; exact ⟨rfl, rfl⟩))
    (fun os started H enc _ => totalCounts_lifted os started H enc)

/-- The statement: the tied card. -/
theorem totalCounts_holds : Rows.TotalCountsCardSaid :=
  Claim7.holds_tied_plain_at .later [] [.data, .data, .data, .sentinel, .sentinel] true (true, "f8c912ddab0669c1af228475e9997e1b78d04c99ea03216e2175044e27f373f2") true
    totalCounts_over (fun _ h => by cases h) (by kernel_rfl) (fun _ h => by cases h) totalCounts_row_tie rfl ⟨rfl, rfl⟩ (by kernel_rfl) rfl
    (fun f fn hf hfn => by
      obtain rfl : f = 5 := Option.some.inj ((show Tryz.prog.funcNamed "beck/becklaw17.TotalCounts" = some 5 by kernel_rfl).symm.trans hf) |>.symm
      obtain rfl : fn = Tryz.f5 := (Option.some.inj (Tryz.func5.symm.trans hfn)).symm
      exact ⟨by kernel_rfl, fun j t ht => by
        rw [Tryz.params5] at ht
        have hm : t ∈ [5, 23] := by simpa using Array.mem_of_getElem? ht
        have hall : ([5, 23].all fun u => !Tryz.prog.wantsStandIn u) = true := by kernel_rfl
        exact (show Tryz.prog.wantsStandIn t = false by simpa using List.all_eq_true.1 hall t hm)⟩)
    (by kernel_rfl)

#print axioms totalCounts_holds

end Go.Proofs.YtflhmieeidnpgaaGreatDoor
