/- Texts of the proof, one behind the other: Ze. -/
import Derived.Test.YtfaapkpebnagmaaGreatDoorXy
namespace Go.Proofs.YtfaapkpebnagmaaGreatDoor
open _root_.Go.Proofs.Tryz
open Go.RowKit Go
open Go.ChangeShapes Go.WideShapes Go.ChangeAt
set_option linter.unusedVariables false
set_option maxRecDepth 100000
set_option maxHeartbeats 400000000
variable {W : World}
theorem tM (hs : W.ShapedOpen prog) (h : laidMetH prog kG W) : Pl W := by
 rw [MakeChecks.laidMetH_plain _ _ _ kr] at h;obtain ⟨ps,⟨g0,t0,cs0,f0,p0,q0,hg0,ht0,hv0,hd0,⟨g1,t1,cs1,f1,p1,q1,hg1,ht1,hv1,hd1,⟨g2,t2,cs2,f2,p2,q2,hg2,ht2,hv2,hd2,⟨g3,t3,cs3,f3,p3,q3,hg3,ht3,hv3,hd3,⟨g4,t4,cs4,f4,p4,q4,hg4,ht4,hv4,hd4,⟨g5,t5,cs5,f5,p5,q5,hg5,ht5,hv5,hd5,⟨g6,t6,cs6,f6,p6,q6,hg6,ht6,hv6,hd6,_,_⟩,_⟩,_⟩,_⟩,_⟩,_⟩,_⟩,_,_⟩ := h;obtain rfl : 1 = g6 := Option.some.inj ((show prog.globalNamed "beck/store.places" = some 1 by kernel_rfl).symm.trans hg6);obtain rfl : 310 = t6 := Option.some.inj ((show (prog.globals[1]?).map (·.type) = some 310 by kernel_rfl).symm.trans ht6);have e : (Rows.laid_beck_store_places : DataW Unit) = .agg [Lib.tabData .i64 [0,1,2],Lib.tabData .i64 [1,2,0],Lib.tabData .i64 [2,0,1]] := kr;have hd : DataW.trod (fun _ => ()) prog W 0 (fun _ => true) false f6 310 cs6.toList = some (.agg [Lib.tabData .i64 [0,1,2],Lib.tabData .i64 [1,2,0],Lib.tabData .i64 [2,0,1]],p6) := by rw [← e]; exact hd6
 have hc : cs6.toList = [.int .i64 0,.int .i64 1,.int .i64 2,.int .i64 1,.int .i64 2,.int .i64 0,.int .i64 2,.int .i64 0,.int .i64 1] := by
  obtain ⟨xs,m,_,hx,hlen,hxl,hg⟩ := DataW.trod_array underlying310 hd;rw [show prog.cellsOf 310 = 9 by kernel_rfl] at hlen;rw [show prog.cellsOf 70 = 3 by kernel_rfl] at hg
  match xs,hxl with
  | [y0,y1,y2],_ =>
   have hx1 := congrArg Prod.fst hx;simp only [List.map_cons,List.map_nil,DataW.agg.injEq,List.cons.injEq,and_true] at hx1;obtain ⟨x0,x1,x2⟩ := hx1;obtain ⟨a0,b0⟩ := y0;obtain ⟨a1,b1⟩ := y1;obtain ⟨a2,b2⟩ := y2;dsimp only at x0 x1 x2;subst x0 x1 x2;have c0 := Lib.cells_of_tab (e := 3) (n := 3) underlying70 underlying3 kr kr (hg 0 de);have c1 := Lib.cells_of_tab (e := 3) (n := 3) underlying70 underlying3 kr kr (hg 1 de);have c2 := Lib.cells_of_tab (e := 3) (n := 3) underlying70 underlying3 kr kr (hg 2 de);generalize cs6.toList = l at hlen c0 c1 c2 ⊢
   match l,hlen with
   | [v0,v1,v2,v3,v4,v5,v6,v7,v8],_ =>
    simp at c0 c1 c2;simp [c0,c1,c2]
 obtain ⟨cs,hcs⟩ := Es hs;have hv : W.var? prog "beck/store.places" = some cs := by
  unfold World.var?;rw [hg6];simp only [Option.bind_some,hcs]
 have he : cs = cs6 := Option.some.inj (hv.symm.trans hv6);subst he;unfold Pl Blk;rw [hcs];congr 2;exact Array.ext' hc
theorem mX (hs : W.ShapedOpen prog) : 8 ≤ W.heap.size := by
 obtain ⟨cs,hcs⟩ := zO hs;have := (Array.getElem?_eq_some_iff.1 hcs).1;omega
end Go.Proofs.YtfaapkpebnagmaaGreatDoor
