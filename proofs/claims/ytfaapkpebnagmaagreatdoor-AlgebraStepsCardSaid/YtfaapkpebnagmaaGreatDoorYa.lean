/- Texts of the proof, one behind the other: Zb. -/
import Derived.Test.YtfaapkpebnagmaaGreatDoorXx
import Derived.ProofKit
import Derived.Deep.Slices
import Derived.Deep.Strs
import Derived.Lib.SmallJoins
namespace Go.Proofs.YtfaapkpebnagmaaGreatDoor
open _root_.Go.Proofs.Tryz
open Go.RowKit Go
open Go.ChangeShapes Go.WideShapes Go.Deep Go.RowKit
set_option linter.unusedVariables false
set_option maxRecDepth 100000
set_option maxHeartbeats 400000000
variable {n : Nat} {cs : List Value}
section
theorem Tryz.cellsA : prog.cellsOf 69 = 12 := kr
theorem Tryz.cellsT : prog.cellsOf 67 = 4 := kr
theorem Tryz.cellsI : prog.cellsOf 3 = 1 := kr
theorem Tryz.cellsS : prog.cellsOf 9 = 1 := kr
section
variable {H : Type} {enc : TypeId × Value → H} {w : World} {base : Nat} {spare : Nat → Bool} {held : Bool}
theorem pR {x : DataW H × List MemPlace} (hl : cs.length = 4) (h : DataW.trod enc prog w base spare held n 67 cs = some x) :
    ∃ y : DT,cs = y.list := by
 obtain ⟨y0,y1,y2,y3,m,hx,hlen,h0,h1,h2,h3⟩ := Go.Joins.trod_struct4 underlying67 h
 match cs,hl with
 | [v0,v1,v2,v3],_ =>
  dsimp only at h0 h1 h2 h3;simp only [Tryz.cellsI,Tryz.cellsS] at h0 h1 h2 h3;obtain ⟨t,e0,_,_⟩ := DataW.trod_int underlying3 h0;obtain ⟨s1,e1,_,_⟩ := DataW.trod_string underlying9 h1;obtain ⟨s2,e2,_,_⟩ := DataW.trod_string underlying9 h2;obtain ⟨s3,e3,_,_⟩ := DataW.trod_string underlying9 h3;simp at e0 e1 e2 e3;subst e0 e1 e2 e3;exact ⟨⟨t,s1,s2,s3⟩,rfl⟩
theorem rO {x : DataW H × List MemPlace} {a : Addr} (hc : w.cells? base a 12 = some cs) (h : DataW.trod enc prog w base spare held n 69 cs = some x) :
    a.spot = none ∧ a.block < w.heap.size ∧ ∃ y : D3,w.rangeAt a.block a.off y.list := by
 obtain ⟨_,hl,hat⟩ := World.cells?_some hc;obtain ⟨y0,y1,y2,m,hx,hlen,g0,g1,g2⟩ := trod_struct3 underlying69 h;dsimp only at g0 g1 g2;rw [Tryz.cellsT] at g0 g1 g2;obtain ⟨t0,f0⟩ := pR (by rw [List.length_take,List.length_drop]; omega) g0;obtain ⟨t1,f1⟩ := pR (by rw [List.length_take,List.length_drop]; omega) g1;obtain ⟨t2,f2⟩ := pR (by rw [List.length_take,List.length_drop]; omega) g2;have hv : cs = (⟨t0,t1,t2⟩ : D3).list := by
  show cs = t0.list ++ t1.list ++ t2.list;rw [← f0,← f1,← f2];have e1 : cs = cs.take 4 ++ cs.drop 4 := (List.take_append_drop 4 cs).symm;have e2 : cs.drop 4 = (cs.drop 4).take 4 ++ (cs.drop 4).drop 4 := (List.take_append_drop 4 _).symm;have e3 : (cs.drop 4).drop 4 = (cs.drop 8).take 4 := by
   rw [List.drop_drop,List.take_of_length_le (by rw [List.length_drop]; omega)]
  rw [e3] at e2;rw [e2] at e1;simpa [List.append_assoc] using e1
 have c0 := hat 0 jj;obtain ⟨v,hv0⟩ : ∃ v,cs[0]? = some v := ⟨cs[0]'jj,List.getElem?_eq_getElem jj⟩;rw [hv0] at c0;have hs : a.spot = none := World.cell?_spot c0;obtain ⟨b,o,sp⟩ := a;simp only at hs;subst hs;have hb : b < w.heap.size := by
  rw [Go.WideShapes.add_plain] at c0;exact World.block_lt_of_cell? w _ c0
 refine ⟨rfl,hb,⟨t0,t1,t2⟩,fun j u hj => ?_⟩;have hjl : j < 12 := (List.getElem?_eq_some_iff.1 hj).1;have h2 := hat j hjl;rw [Go.WideShapes.add_plain] at h2;rw [← hv] at hj;rw [hj] at h2;exact h2
theorem Cn {fuel : Nat} {v : Value} {a : Option Addr} {len cap : Nat} {x : DataW H × List MemPlace} (hv : v = .slice a len cap) (h : DataW.trod enc prog w base spare held fuel 22 v.cells.toList = some x) :
    len ≤ maxLen ∧ mB w a len := by
 subst hv;rcases open_slice underlying22 h with ⟨hcs,_⟩ | ⟨a',len',cap',m,n,D,Pl,hcs,_,hl,hcm,hm,_,hall⟩
 · simp [Value.cells] at hcs;obtain ⟨rfl,rfl,rfl⟩ := hcs;exact ⟨Nat.zero_le _,fun i hi => absurd hi jj⟩
 · simp [Value.cells] at hcs;obtain ⟨rfl,rfl,rfl⟩ := hcs;have hlm : len ≤ m := by rw [hm]; split <;> omega
   rw [Tryz.cellsA] at hall;refine ⟨Nat.le_trans hl hcm,fun i hi => ?_⟩;obtain ⟨cs',hc',ht'⟩ := hall i jj;obtain ⟨hs,hb,y,hy⟩ := rO hc' ht';have hsp : a'.spot = none := by
    obtain ⟨cs0,hc0,ht0⟩ := hall 0 jj;have := (rO hc0 ht0).1;simpa [Addr.add] using this
   obtain ⟨b,o,sp⟩ := a';simp only at hsp;subst hsp;rw [Go.WideShapes.add_plain] at hy hb;exact ⟨b,o,y,rfl,hb,hy⟩
end
end
end Go.Proofs.YtfaapkpebnagmaaGreatDoor
