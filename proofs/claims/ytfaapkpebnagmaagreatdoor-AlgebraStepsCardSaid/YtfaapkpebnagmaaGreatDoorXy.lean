/- Texts of the proof, one behind the other: Za. -/
import Derived.Test.YtfaapkpebnagmaaGreatDoorXx
import Derived.Test.YtfaapkpebnagmaaGreatDoorRows
import Derived.SevenTiedAt
import Derived.ProofKit
import Derived.JoinedOf
import Derived.LaidMore
import Derived.Stop.Joined
import Derived.ChangeOld
namespace Go.Proofs.YtfaapkpebnagmaaGreatDoor
open _root_.Go.Proofs.Tryz
open Go.RowKit Go
open Go.ChangeShapes Go.WideShapes Go.ChangeAt
set_option linter.unusedVariables false
set_option maxRecDepth 100000
set_option maxHeartbeats 400000000
variable {W : World}
theorem mV {H : Type} {enc : TypeId × Value → H} {P : Program} {w : World} {base : Nat} {sp : Nat → Bool} {held : Bool} {fuel : Nat} {t e : TypeId} {n : Nat} {cs : List Value} {ss : List (List UInt8)} {p : List MemPlace}
    (ht : P.underlying t = some (.array n e)) (he : P.underlying e = some .string) (hce : P.cellsOf e = 1) (hct : P.cellsOf t = n)
    (h : DataW.trod enc P w base sp held fuel t cs = some (.agg (ss.map fun l => .lit (.string l)),p)) : cs = ss.map fun l => Value.string ⟨l.toArray⟩ := by
 cases fuel with
 | zero => simp [DataW.trod] at h
 | succ fuel =>
  simp only [DataW.trod,ht,hce,hct,Nat.mul_one] at h;split at h
  · rename_i hl;obtain ⟨xs,hm,hx⟩ := Option.map_eq_some_iff.1 h;have hxs : xs.map (·.1) = ss.map fun l => (DataW.lit (.string l) : DataW H) := by
     have := congrArg Prod.fst hx;simpa using this
    have hxl : xs.length = n := by simpa using Lib.mapM_length hm
    have hzl : ss.length = n := by
     have := congrArg List.length hxs;simp at this;omega
    apply List.ext_getElem?;intro i;by_cases hi : i < n
    · obtain ⟨b,hb,hf⟩ := Lib.mapM_at hm i i (by simp [hi]);obtain ⟨s,hc,rfl,_⟩ := DataW.trod_string he hf;have h1 : cs[i]? = some (.string s) := by
       have := congrArg (·[0]?) hc;simpa [List.getElem?_take,List.getElem?_drop] using this
      have h2 : (xs.map (·.1))[i]? = some (DataW.lit (.string s.data.toList) : DataW H) := by simp [hb]
      rw [hxs] at h2;simp only [List.getElem?_map,Option.map_eq_some_iff,DataW.lit.injEq,Lit.string.injEq] at h2;obtain ⟨z',hz',hz⟩ := h2;subst hz;simp [h1,hz']
    · rw [List.getElem?_eq_none jj,List.getElem?_eq_none (by simp; omega)]
  · cases h
theorem mW {H : Type} {enc : TypeId × Value → H} {a : Assume} {C : Checked} {os : Os} {f : FuncId} {fn : Func} {s : ChangeSpec} {conds : List PathCond} {apart fresh handsOn again : Bool} {X : World → Array Value → Prop}
    (hX : ∀ (w w' : World) (args : Array Value),w.heap = w'.heap → X w args → X w' args)
    (own : ownKnob C.prog.godebug = none) (started : os.Started) (noInit : C.prog.inits.idxOf? f = none) (hfn : C.prog.funcs[f]? = some fn)
    (witness : ∃ (w : World) (tape : Tape) (i : Input),w.os = os ∧ (w.forCall tape i).Shaped C.prog ∧ i.vars = [] ∧ Input.okWide C.prog (w.forCall tape i) .any w.heap.size f i ∧
     ((s.pre enc C.prog fn conds apart (w.forCall tape i).memory i.args ∧ X (w.forCall tape i).memory i.args) ∧ sizedMet enc C.prog fn (OpenSpec.ofChange s) apart (w.forCall tape i).memory i.args) ∧ a.holds C.prog (lone (Frame.enter C.prog f i.args .normal) [] (w.forCall tape i)))
    (contract : ∀ (W : World) (base : Nat) (args : Array Value) (ds gs : List (DataW H)) (before : List MemPlace),W.ShapedOpen C.prog →
     (∀ (j : Nat) t v,fn.params[j]? = some t → args[j]? = some v → Value.okWide C.prog W .any base t v) →
     DataW.Whole enc C.prog fn.params.toList s.vars apart W args.toList ds gs before →
     conds.all (PathCond.test C.prog ⟨fn.params.toList,ds,s.plain.varTypes C.prog,gs⟩) = true →
     (DataW.weightsEach C.prog (fn.params.toList ++ s.plain.varTypes C.prog) (ds ++ gs)).all (· ≤ reachBytes) = true → X W args →
     a.holds C.prog (lone (Frame.enter C.prog f args .normal) [] W) →
     Calls C.prog f args W fun e W' => ∃ v,e = .returned v ∧ s.post enc C.prog fn apart fresh handsOn again W args v W') :
    ReturnsInHanded a C os f .any (fun w args => (s.pre enc C.prog fn conds apart w args ∧ X w args) ∧ sizedMet enc C.prog fn (OpenSpec.ofChange s) apart w args) (s.post enc C.prog fn apart fresh handsOn again) := by
 refine returnsInHanded_of_calls own started noInit witness ?_;intro w tape i _ hsh _ hok hpre hholds;obtain ⟨_,_,_,fn',hfn',_,_,_,_,hval⟩ := hok;have e : fn' = fn := Option.some.inj (hfn'.symm.trans hfn);subst e;obtain ⟨⟨⟨ds,gs,before,hw,hc⟩,hx⟩,hz⟩ := hpre;have hw' := DataW.Whole.of_heap (w' := w.forCall tape i) (by rfl) hw;refine (contract (w.forCall tape i) w.heap.size i.args ds gs before hsh hval hw' hc (hz.weights hw) (hX _ _ _ (by rfl) hx) hholds).mono fun e W' ⟨v,he,hp⟩ => ?_;subst he;exact ChangeSpec.post_blind hp
theorem wH : ownKnob prog.godebug = none := kr
theorem zN : laidOutB prog = true := kr
abbrev kG : List (String × DataW Unit) := Rows.algebraStepsRow.laid
theorem wI (os : Os) (args : Array Value) : laidMetH prog kG ((World.doorLaid prog 400 os).forCall (fun _ _ => 0) ⟨#[],args,[]⟩).memory :=
 laidMetH_of_parts3 (fuel := 8) (laidMet_of_run' 8 kr kr) kr kr
theorem pQ (os : Os) (args : Array Value) : ((World.doorLaid prog 400 os).forCall (fun _ _ => 0) ⟨#[],args,[]⟩).Shaped prog := World.shaped_of_RefB kr kr
theorem zO (h : W.ShapedOpen prog) : ∃ cs,W.heap[7]? = some (.cells cs 447) := by
 have h0 : (((begin prog (fun _ _ => 0) default).world.heap[7]?).bind Obj.row?).map (·.2) = some 447 := kr;obtain ⟨⟨zero,t⟩,hz,ht⟩ := Option.map_eq_some_iff.1 h0;simp only at ht;subst ht;obtain ⟨cs,hcs,_⟩ := h.1 7 zero 447 (of_decide_eq_true kr) hz;exact ⟨cs,hcs⟩
theorem Er (h : W.ShapedOpen prog) : ∃ cs,W.heap[0]? = some (.cells cs 286) := by
 have h0 : (((begin prog (fun _ _ => 0) default).world.heap[0]?).bind Obj.row?).map (·.2) = some 286 := kr;obtain ⟨⟨zero,t⟩,hz,ht⟩ := Option.map_eq_some_iff.1 h0;simp only at ht;subst ht;obtain ⟨cs,hcs,_⟩ := h.1 0 zero 286 (of_decide_eq_true kr) hz;exact ⟨cs,hcs⟩
theorem Es (h : W.ShapedOpen prog) : ∃ cs,W.heap[1]? = some (.cells cs 310) := by
 have h0 : (((begin prog (fun _ _ => 0) default).world.heap[1]?).bind Obj.row?).map (·.2) = some 310 := kr;obtain ⟨⟨zero,t⟩,hz,ht⟩ := Option.map_eq_some_iff.1 h0;simp only at ht;subst ht;obtain ⟨cs,hcs,_⟩ := h.1 1 zero 310 (of_decide_eq_true kr) hz;exact ⟨cs,hcs⟩
theorem tJ (hs : W.ShapedOpen prog) (h : laidMetH prog kG W) : Sg W := by
 rw [MakeChecks.laidMetH_plain _ _ _ kr] at h;obtain ⟨ps,⟨g0,t0,cs0,f0,p0,q0,hg0,ht0,hv0,hd0,⟨g1,t1,cs1,f1,p1,q1,hg1,ht1,hv1,hd1,⟨g2,t2,cs2,f2,p2,q2,hg2,ht2,hv2,hd2,⟨g3,t3,cs3,f3,p3,q3,hg3,ht3,hv3,hd3,⟨g4,t4,cs4,f4,p4,q4,hg4,ht4,hv4,hd4,⟨g5,t5,cs5,f5,p5,q5,hg5,ht5,hv5,hd5,⟨g6,t6,cs6,f6,p6,q6,hg6,ht6,hv6,hd6,⟨g7,t7,cs7,f7,p7,q7,hg7,ht7,hv7,hd7,⟨g8,t8,cs8,f8,p8,q8,hg8,ht8,hv8,hd8,_,_⟩,_⟩,_⟩,_⟩,_⟩,_⟩,_⟩,_⟩,_⟩,_,_⟩ := h;obtain rfl : 7 = g8 := Option.some.inj ((show prog.globalNamed "beck/syntax.signs" = some 7 by kernel_rfl).symm.trans hg8);obtain rfl : 447 = t8 := Option.some.inj ((show (prog.globals[7]?).map (·.type) = some 447 by kernel_rfl).symm.trans ht8);have hc := mV (n := 7) (e := 9) (ss := [[],[],[],[],[42],[43],[126]]) underlying447 underlying9 kr kr hd8;obtain ⟨cs,hcs⟩ := zO hs;have hv : W.var? prog "beck/syntax.signs" = some cs := by
  unfold World.var?;rw [hg8];simp only [Option.bind_some,hcs]
 have he : cs = cs8 := Option.some.inj (hv.symm.trans hv8);subst he;unfold Sg Blk;rw [hcs];congr 2;exact Array.ext' hc
theorem tK (hs : W.ShapedOpen prog) (h : laidMetH prog kG W) : Ch W := by
 rw [MakeChecks.laidMetH_plain _ _ _ kr] at h;obtain ⟨ps,⟨g0,t0,cs0,f0,p0,q0,hg0,ht0,hv0,hd0,⟨g1,t1,cs1,f1,p1,q1,hg1,ht1,hv1,hd1,⟨g2,t2,cs2,f2,p2,q2,hg2,ht2,hv2,hd2,⟨g3,t3,cs3,f3,p3,q3,hg3,ht3,hv3,hd3,⟨g4,t4,cs4,f4,p4,q4,hg4,ht4,hv4,hd4,⟨g5,t5,cs5,f5,p5,q5,hg5,ht5,hv5,hd5,⟨g6,t6,cs6,f6,p6,q6,hg6,ht6,hv6,hd6,⟨g7,t7,cs7,f7,p7,q7,hg7,ht7,hv7,hd7,_,_⟩,_⟩,_⟩,_⟩,_⟩,_⟩,_⟩,_⟩,_,_⟩ := h;obtain rfl : 0 = g7 := Option.some.inj ((show prog.globalNamed "beck/store.chosen" = some 0 by kernel_rfl).symm.trans hg7);obtain rfl : 286 = t7 := Option.some.inj ((show (prog.globals[0]?).map (·.type) = some 286 by kernel_rfl).symm.trans ht7);have e : (Rows.laid_beck_store_chosen : DataW Unit) = Lib.tabData .i64 [0,0,1,0,2,2,1,0] := kr;have hd : DataW.trod (fun _ => ()) prog W 0 (fun _ => true) false f7 286 cs7.toList = some (Lib.tabData .i64 [0,0,1,0,2,2,1,0],p7) := by rw [← e]; exact hd7
 have hc := Lib.cells_of_tab (e := 3) (n := 8) underlying286 underlying3 kr kr hd;obtain ⟨cs,hcs⟩ := Er hs;have hv : W.var? prog "beck/store.chosen" = some cs := by
  unfold World.var?;rw [hg7];simp only [Option.bind_some,hcs]
 have he : cs = cs7 := Option.some.inj (hv.symm.trans hv7);subst he;unfold Ch Blk;rw [hcs];congr 2;exact Array.ext' hc
theorem tL (h : laidMetH prog kG W) : Tb W := by
 rw [MakeChecks.laidMetH_plain _ _ _ kr] at h;obtain ⟨ps,⟨g0,t0,cs0,f0,p0,q0,hg0,ht0,hv0,hd0,⟨g1,t1,cs1,f1,p1,q1,hg1,ht1,hv1,hd1,⟨g2,t2,cs2,f2,p2,q2,hg2,ht2,hv2,hd2,_,_⟩,_⟩,_⟩,_,_⟩ := h;obtain rfl : 3 = g2 := Option.some.inj ((show prog.globalNamed "internal/strconv.uint64pow10" = some 3 by kernel_rfl).symm.trans hg2);obtain rfl : 393 = t2 := Option.some.inj ((show (prog.globals[3]?).map (·.type) = some 393 by kernel_rfl).symm.trans ht2);have e : (Rows.laid_internal_strconv_uint64pow10 : DataW Unit) = Lib.tabData .u64 Lib.pow10Tab := kr;have hd : DataW.trod (fun _ => ()) prog W 0 (fun _ => true) false f2 393 cs2.toList = some (Lib.tabData .u64 Lib.pow10Tab,p2) := by rw [← e]; exact hd2
 unfold Tb Lib.TabIs;rw [show W.var? prog "internal/strconv.uint64pow10" = some cs2 from hv2,← Lib.cells_of_tab (e := 297) (n := 20) underlying393 underlying297 kr kr hd]
end Go.Proofs.YtfaapkpebnagmaaGreatDoor
