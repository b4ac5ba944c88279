/- Texts of the proof, one behind the other: Tq, Tr, Ua, Ub, Uc, Ud, Ue, Uf, Ug, Uh, Ui, Xc, Xe, Xf, Xg. -/
import Derived.Test.YtfaapkpebnagmaaGreatDoorXm
namespace Go.Proofs.YtfaapkpebnagmaaGreatDoor
open _root_.Go.Proofs.Tryz
open Go.RowKit Go
set_option linter.unusedVariables false
set_option maxRecDepth 100000
set_option maxHeartbeats 400000000
variable {w w6 wr : World} {B ob mC oc m ma ca mb cb : Nat} {vr v6 ovr vra vrb : Value} {vals ovals : List Value} {rows orows : List (List Int)} {OV VA VB : Option Addr} {a : ByteArray} {sc : List ByteArray}
section
attribute [local go_sem] Oper.semAt_some
theorem pu (n : Int) (sb B : Nat) (r : Nat → Value) (ls : Nat → List Edge) (room : Int) (b1 b2 b3 b4 : Nat) (w : World) (hP : Pl w) (hS : br w sb B r ls room) (hC : dW w sb n b1 b2 b3 b4) (X : Nat → Prop) (hX : kP sb r b1 b2 b3 b4 X) (m : Nat) (hm : 1 ≤ m) (hpn : ¬ bP (bh n) (ls (bh n)) (0,max n 0,0) < (ls (bh n)).length) :
    SeqStopsK Fence.wide m prog 139 #[.pointer (some ⟨b1,0,none⟩),.pointer (some ⟨b2,0,none⟩),.pointer (some ⟨b3,0,none⟩),.pointer (some ⟨b4,0,none⟩)] (fun x : Edge => #[k3 x]) (Fr X) (fun ys => ys = aT ls n) (fun pre => pre <+: aT ls n) (aT ls n).length w := by
 intro l J Jx W hW hJ hJx hY h0;have hF0 : Fr (fun _ => False) w W := Fr.of_below hW _;have ho : bh n < 3 := by unfold bh; split <;> decide
 have HFIND := Hd (fun W' (h : Fr (fun _ => False) w W') => pq (bh n) ho (0,max n 0,0) sb B r ls room W' (hP.fr h id) (hS.fr h));have HS := Hd hS;have HC := Hd hC;have HJ := Hd hJ;have HF0 := Hd hF0;have hcW := hC.fr hF0 ⟨fun h => h,fun h => h,fun h => h,fun h => h⟩;have x1 := hcW.c1.c0;have x2 := hcW.c2.c0;have x3 := hcW.c3.c0;have x4 := hcW.c3.c1;have x5 := hcW.c3.c2;have HSL := Hd (show aT ls n = ((ls (bh n)).drop (bP (bh n) (ls (bh n)) (0,max n 0,0))).takeWhile (j7 n) from rfl);have hpl := kO (bh n) (ls (bh n)) (0,max n 0,0);generalize bP (bh n) (ls (bh n)) (0,max n 0,0) = p at *;generalize decide ((0,max n 0,0) ∈ ls (bh n)) = fnd at *;simp only [eh] at HFIND;clear hW hJ hJx hY hF0 hcW hC hP hS;refine callsIn_of_wp func139 rfl trivial ?_ rfl;simp only [ntmps139,List.size_toArray,List.length_cons,List.length_nil,Nat.reduceAdd,Nat.reduceSub,Array.replicate_succ,Array.replicate_zero,List.push_toArray,List.append_toArray,List.nil_append,List.cons_append]
 gi_wp2_with fail;refine ⟨trivial,(callsIn_wide.2 (HFIND.out W HF0)).mono ?_⟩;rintro e1 w1 ⟨rfl,hf1⟩;have hfw1 := HF0.trans' hf1;have hJ1 : J [] w1 := HJ.out [] W w1 none h0 hf1.grownBy (fun r e => by cases e);have hs1 := HS.fr hfw1;have hc1 := HC.fr hfw1 ⟨fun h => h,fun h => h,fun h => h,fun h => h⟩;have y1 := hc1.c1.c0;have y2 := hc1.c2.c0;have y3 := hs1.cell ho;obtain ⟨a0,c0,he0⟩ := (HS.row _ ho).len;rw [he0] at y3;have HE0 := Hd he0;generalize hlen : (ls (bh n)).length = len at *;have HLEN := Hd hlen;have ho3 : ((bh n : Nat) : Int) < 3 := jj;have hpl' : (p : Int) ≤ (len : Int) := jj;have HJ1 := Hd hJ1;clear hf1 hfw1 hs1 hc1 x1 x2 x3 x4 x5 HFIND h0 he0 hlen hJ1
 gi_wp2_with fail;have hpe : p = len := jj;have hsl : aT ls n = [] := by rw [HSL.out,List.drop_eq_nil_of_le (by rw [HLEN.out]; omega)]; rfl
 have HSN := Hd hsl;subst hpe;have HX1 := Hd (show J [] w1.drew from HJ.out [] w1 w1.drew none HJ1 ((Fr.refl (fun _ => False) w1).drew.grownBy) (fun r e => by cases e));clear hsl;have hcap : a0 = none ∧ c0 = 0 ∧ p = 0 ∨ ∃ g,a0 = some ⟨g,0,none⟩ ∧ p ≤ c0 := by
  rcases (HS.row _ ho).2 with ⟨h,h0⟩ | ⟨g',cap,cur,h,_,_,h2,_⟩
  · rw [HE0.out] at h;simp only [Value.slice.injEq] at h;rw [HLEN.out] at h0;exact .inl ⟨h.1,h.2.2,h0⟩
  · rw [HE0.out] at h;simp only [Value.slice.injEq] at h;rw [HLEN.out] at h2;exact .inr ⟨g',h.1,by omega⟩
 rcases hcap with ⟨rfl,rfl,rfl⟩ | ⟨g,rfl,hpc⟩
 · gi_region
   gi_wp2_with fail
   gi_loopw [26] (fun iv wr => iv = .int .i64 0 ∧ J [] wr) (fun _ _ => 0)
   case atStart => exact ⟨rfl,HX1⟩
   case round =>
    obtain ⟨rfl,hJs⟩ := hrel
    gi_wp2_with fail
    go_end0;exact ⟨⟨_,rfl⟩,.inl ⟨[],HSN.symm,hJs⟩⟩
 · by_cases hcp : c0 = p
   · subst hcp
     gi_region
     gi_wp2_with fail
     gi_loopw [26] (fun iv wr => iv = .int .i64 0 ∧ J [] wr) (fun _ _ => 0)
     case atStart => exact ⟨rfl,HX1⟩
     case round =>
      obtain ⟨rfl,hJs⟩ := hrel
      gi_wp2_with fail
      go_end0;exact ⟨⟨_,rfl⟩,.inl ⟨[],HSN.symm,hJs⟩⟩
   · gi_region
     gi_wp2_with fail
     gi_loopw [26] (fun iv wr => iv = .int .i64 0 ∧ J [] wr) (fun _ _ => 0)
     case atStart => exact ⟨rfl,HX1⟩
     case round =>
      obtain ⟨rfl,hJs⟩ := hrel
      gi_wp2_with fail
      go_end0;exact ⟨⟨_,rfl⟩,.inl ⟨[],HSN.symm,hJs⟩⟩
theorem AD (n : Int) (sb B : Nat) (r : Nat → Value) (ls : Nat → List Edge) (room : Int) (b1 b2 b3 b4 : Nat) (w : World) (hP : Pl w) (hS : br w sb B r ls room) (hC : dW w sb n b1 b2 b3 b4) (X : Nat → Prop) (hX : kP sb r b1 b2 b3 b4 X) (m : Nat) (hm : 1 ≤ m) :
    SeqStopsK Fence.wide m prog 139 #[.pointer (some ⟨b1,0,none⟩),.pointer (some ⟨b2,0,none⟩),.pointer (some ⟨b3,0,none⟩),.pointer (some ⟨b4,0,none⟩)] (fun x : Edge => #[k3 x]) (Fr X) (fun ys => ys = aT ls n) (fun pre => pre <+: aT ls n) (aT ls n).length w := by
 by_cases hpn : bP (bh n) (ls (bh n)) (0,max n 0,0) < (ls (bh n)).length
 · exact pr n sb B r ls room b1 b2 b3 b4 w hP hS hC X hX m hm hpn
 · exact pu n sb B r ls room b1 b2 b3 b4 w hP hS hC X hX m hm hpn
end
section
attribute [local go_sem] Oper.semAt_some
def dX (l : List Edge) : List Value := l.flatMap fun k => [.int .i64 k.1,.int .i64 k.2.1,.int .i64 k.2.2,.int .i64 1]
theorem sC (l m : List Edge) : dX (l ++ m) = dX l ++ dX m := by simp [dX]
theorem AE {β : Type} (B : Nat) (t : TypeId) (cs : Array Value) : Own (fun (_ : β) W => Blk W B t cs) := fun s X Y row hs hg hrow => by
 refine (hg.block B hs.lt (fun e' => ?_)).trans hs;obtain ⟨o,ho,hc⟩ := hrow B e'.symm;rw [show X.heap[B]? = _ from hs] at ho; cases ho; cases hc
theorem AF : (prog.info? 165).map (fun i => (i.zero,i.size,i.bytes)) = some (some (.agg #[.int .i64 0,.int .i64 0,.int .i64 0,.int .i64 0]),4,32) := kr
theorem xJ {B' : Nat} {e : TypeId} {size n : Nat} {v : Value} {xs : List Value} (h : w.ownsRow B e size v n xs) (hB : B' ≤ B) : w.ownsRow B' e size v n xs := by
 refine ⟨h.1,?_⟩;rcases h.2 with h | ⟨g,cap,cur,h1,h2,h3⟩
 · exact .inl h
 · exact .inr ⟨g,cap,cur,h1,Nat.le_trans hB h2,h3⟩
def i7 (ls : Nat → List Edge) (n : Int) (w : World) (e : Ending) (w' : World) : Prop :=
 ∃ v,e = .returned v ∧ w'.ownsRow w.heap.size 165 4 v (aT ls n).length (dX (aT ls n)) ∧ Fr (fun _ => False) w w'
theorem qJ (n : Int) (sb B : Nat) (da : Option Addr) (ma : Option Nat) (r : Nat → Value) (ls : Nat → List Edge) (room : Int) (w : World) (hP : Pl w) (hC : Ch w) (hS : br w sb B r ls room) (hlen : (aT ls n).length ≤ 10000) :
    Calls prog 27 #[.agg #[.pointer da,.pointer (some ⟨sb,0,none⟩),.map ma],lR n] w (i7 ls n w) := by
 refine (callsIn_wide (n := 9)).1 ?_;obtain ⟨i0,hi,hz0,hz1,hz2⟩ := info_parts AF;have hro : Fence.wide.round = none := rfl;refine callsIn_of_wp_marks func27 rfl trivial ?_ hro;simp only [lR,ntmps27,List.size_toArray,List.length_cons,List.length_nil,Nat.reduceAdd,Nat.reduceSub,Array.replicate_succ,Array.replicate_zero,List.push_toArray,List.append_toArray,List.nil_append,List.cons_append];have hf0 := Fr.a3 w (.cells #[.pointer da,.pointer (some ⟨sb,0,none⟩),.map ma] 41) (.cells #[.int .i64 (-1),.int .i64 n,.int .i64 (-1)] 189) (.cells #[.slice none 0 0] 86);have hbO : Blk (((w.alloc (.cells #[.pointer da,.pointer (some ⟨sb,0,none⟩),.map ma] 41)).alloc (.cells #[.int .i64 (-1),.int .i64 n,.int .i64 (-1)] 189)).alloc (.cells #[.slice none 0 0] 86)) (w.heap.size + 1 + 1) 86 #[.slice none 0 0] := by
  have h := Blk.new ((w.alloc (.cells #[.pointer da,.pointer (some ⟨sb,0,none⟩),.map ma] 41)).alloc (.cells #[.int .i64 (-1),.int .i64 n,.int .i64 (-1)] 189)) 86 #[.slice none 0 0];simpa using h
 have hsc := C9 sb n _ (hC.fr hf0 id);simp only [lR] at hsc;have HSC := Hd hsc;have HBO := Hd hbO;have HF0 := Hd hf0;have HS := Hd hS;have HP := Hd hP;clear hf0 hbO hsc hC hS hP
 gi_wp2_with fail;refine ⟨trivial,(callsIn_wide.2 HSC).mono ?_⟩;rintro e1 w1 ⟨b1,b2,b3,b4,rfl,hcc,hf1⟩;have hw1 := HF0.trans' hf1;have hb1 := HBO.fr hf1 id;have hS1 := HS.fr hw1;have hP1 := HP.fr hw1 id;have hsl : sb < w.heap.size := HS.blk.lt;have hbl : w.heap.size + 1 + 1 < w1.heap.size := hb1.lt;have hX : kP sb r b1 b2 b3 b4 (fun j => j = w.heap.size + 1 + 1 ∨ w1.heap.size ≤ j) := by
  refine ⟨fun h => by omega,fun o j ho hx hj => ?_,fun h => ?_,fun h => ?_,fun h => ?_,fun h => ?_⟩
  · have := gu (HS.row o ho) hj;omega
  · rcases h with h | h
    · exact Blk.ne_ hcc.c1 hb1 de h
    · have := hcc.c1.lt; omega
  · rcases h with h | h
    · exact Blk.ne_ hcc.c2 hb1 de h
    · have := hcc.c2.lt; omega
  · rcases h with h | h
    · exact Blk.ne_ hcc.c3 hb1 de h
    · have := hcc.c3.lt; omega
  · rcases h with h | h
    · exact Blk.ne_ hcc.c4 hb1 de h
    · have := hcc.c4.lt; omega
 have hstops := AD n sb B r ls room b1 b2 b3 b4 w1 hP1 hS1 hcc _ hX 8 de;have hB1 : Below w.heap.size w w1 := hw1.below (Nat.le_refl _) (fun k h => h.elim);have HB1 := Hd hB1;have HSTOPS := Hd hstops;clear hf1 hw1 hS1 hP1 hX hcc hstops hB1
 gi_wp2_with fail;refine wpIn_rangeFunc_ownH hro de (gf := 139) (lb := #[.pointer (some ⟨b1,0,none⟩),.pointer (some ⟨b2,0,none⟩),.pointer (some ⟨b3,0,none⟩),.pointer (some ⟨b4,0,none⟩)]) rfl trivial (enters_of func139 kr rfl)
  HSTOPS (fun h k => h.trans' k) (fun W l o o' hl h _ _ => (Fr.refl _ W).grown (grownBy_putObj' W l o') (fun k hk e => by cases e; exact .inr hl)) (Below.refl _ _) (fun _ => rfl)
  (fun pre W => (∃ v,Boxed W (w.heap.size + 1 + 1) 86 v ∧ W.ownsRow w1.heap.size 165 4 v pre.length (dX pre) ∧ True) ∧ Below w.heap.size w W)
  (fun _ _ _ => False)
  (OwnFrom.and (Own.from (holdsRow_own w1.heap.size (w.heap.size + 1 + 1) 86 165 4 (fun pre : List Edge => pre.length) (fun pre => dX pre) (fun _ _ => True)) _) (ownFrom_below (Nat.le_refl _) jj))
  (fun _ _ _ _ _ hs _ _ => hs)
  ⟨⟨_,hb1,World.ownsRow_nil _ _ _ _,trivial⟩,HB1⟩
  (fun x a' W => ∃ Bx,w.heap.size + 1 + 1 < Bx ∧ Blk W Bx 71 #[.int .i64 x.1,.int .i64 x.2.1,.int .i64 x.2.2] ∧ a' = { tmps := #[.agg #[.pointer da,.pointer (some ⟨sb,0,none⟩),.map ma],.agg #[.int .i64 (-1),.int .i64 n,.int .i64 (-1)],.pointer (some ⟨w.heap.size,0,none⟩),.pointer (some ⟨w.heap.size + 1,0,none⟩),.slice none 0 0,.pointer (some ⟨w.heap.size + 1 + 1,0,none⟩),.pointer (some ⟨Bx,0,none⟩),.pointer (some ⟨w.heap.size,1,none⟩),.pointer (some ⟨sb,0,none⟩),.agg #[.int .i64 (-1),.int .i64 n,.int .i64 (-1)],.func (.func 139) #[] #[.pointer (some ⟨b1,0,none⟩),.pointer (some ⟨b2,0,none⟩),.pointer (some ⟨b3,0,none⟩),.pointer (some ⟨b4,0,none⟩)],.agg #[.int .i64 x.1,.int .i64 x.2.1,.int .i64 x.2.2],undef,undef,undef,undef,undef,undef],defers := [] })
  (fun x a' _ X Y row hs hg hr => by obtain ⟨Bx,h1,h2,h3⟩ := hs; exact ⟨Bx,h1,AE (β := Unit) Bx 71 #[.int .i64 x.1,.int .i64 x.2.1,.int .i64 x.2.2] () X Y row h2 hg (fun r e => (hr r e).2),h3⟩)
  ?assign ?body ?done ?stop
 case assign =>
  rintro l pre x W K ⟨⟨v,hv,hrow,_⟩,hB⟩ hK;simp only [eh]
  gi_wp2_with fail;exact hK _ _ ((KeepsOthers.alloc _ _).from _) ((Fr.refl _ W).alloc _) ⟨⟨v,hv.alloc _,hrow.alloc _,trivial⟩,hB.alloc hB.size _⟩ ⟨W.heap.size,hv.lt,Blk.new W 71 _,rfl⟩
 case body =>
  rintro l pre x a' W hl ⟨rr,hr⟩ ⟨⟨v,hv,hrow,_⟩,hB⟩ ⟨Bx,hBx,bX,rfl⟩ hlt;have cv := hv.cell;have x0 := bX.c0;have x1 := bX.c1;have x2 := bX.c2;have hWl : w1.heap.size ≤ W.heap.size := by
   have := (Array.getElem?_eq_some_iff.1 hr).1;omega
  gi_wp2_with (gi_at_builtin; refine wpListIn_append_own _ rfl _ _ 86 rfl w1.heap.size 165 i0 _ 4 32 underlying86 hi hz0 hz1 hz2 rfl de _ _ _ rfl (hrow.alloc _) ⟨W.heap.size,0,none⟩ 1 1 [.int .i64 x.1,.int .i64 x.2.1,.int .i64 x.2.2,.int .i64 1] rfl rfl (World.news_of_block (heap_alloc_new _ _)) (by intro u hu; simp only [List.mem_cons,List.not_mem_nil,or_false] at hu; rcases hu with rfl | rfl | rfl | rfl <;> rfl) (by unfold maxLen; omega) jj (by simp; omega) ?_; intro v' w2 hown' hgrow _; obtain ⟨g',cap',rfl⟩ := ownsRow_succ hown'; have hb2 : Boxed w2 (w.heap.size + 1 + 1) 86 v := (hv.alloc _).kept hgrow (fun e => ac hrow hv de e.symm); have hc2 := hb2.cell; have hf2 := hb2.frozen);have hgrow' : (W.alloc (.cells #[.int .i64 x.1,.int .i64 x.2.1,.int .i64 x.2.2,.int .i64 1] 165)).grownBy w2 v.ownBlock := hgrow;clear hgrow;have hgrow := hgrow';have hF : Fr (fun j => j = w.heap.size + 1 + 1 ∨ w1.heap.size ≤ j) W w2 := ((Fr.refl _ W).alloc _).grown hgrow (fun k _ e => .inr (bs hrow e));have hF2 := hF.setCell ⟨w.heap.size + 1 + 1,0,none⟩ (fun _ => .inl rfl) (.slice (some ⟨g',0,none⟩) (pre.length + 1) cap');have hk2 : KeepsOthers W (w2.setCell ⟨w.heap.size + 1 + 1,0,none⟩ (.slice (some ⟨g',0,none⟩) (pre.length + 1) cap')) := by
   refine ((KeepsOthers.alloc W _).trans (KeepsOthers.of_grownBy hgrow fun j o ej hj => ?_)).trans (KeepsOthers.setCell _ _ _);rcases (hrow.alloc (.cells #[.int .i64 x.1,.int .i64 x.2.1,.int .i64 x.2.2,.int .i64 1] 165)).2 with ⟨rfl,_⟩ | ⟨g,cap,cur,rfl,_,hgb,_⟩
   · simp [Value.ownBlock] at ej
   · obtain rfl : g = j := by simpa [Value.ownBlock] using ej
     rw [hgb] at hj; cases hj; rfl
  refine ⟨hk2.from _,hF2,⟨_,hb2.set _,?_,trivial⟩,?_⟩
  · have h := aa hown' ((Fr.refl (fun j => j = w.heap.size + 1 + 1) w2).setCell ⟨w.heap.size + 1 + 1,0,none⟩ (fun _ => rfl) (.slice (some ⟨g',0,none⟩) (pre.length + 1) cap')) (fun k hk e => ac hown' hb2 de (by rw [hk,e]));rw [sC];simpa [dX] using h
  · exact hB.trans (hF2.below (B := w.heap.size) hB.size (fun k h => by omega))
 case done =>
  rintro D ys W hD rfl ⟨⟨v,hv,hrow,_⟩,hB⟩ hK;have hc := hv.cell
  gi_wp2_with fail;refine ⟨by simp,.inl ⟨_,_,rfl,run_takeDeferred hK,?_⟩⟩;exact ⟨_,results_tmp rfl _ _ _,v,rfl,xJ (ownsRow_putObj hrow _ hK rfl) jj,Fr.of_below (hB.trans (belowK_b (w := w) (Nat.le_refl _) W D _ _ jj hK rfl rfl)) _⟩
 case stop =>
  rintro D c pre W _ _ h _;exact h.elim
end
def EvB (w : World) (eb db sb : Nat) (ma : Option Nat) (code : Int) : Prop := Blk w eb 95 #[.pointer (some ⟨db,0,none⟩),.pointer (some ⟨sb,0,none⟩),.map ma,.int .i64 code]
theorem AG (B b r : Nat) (vt : Value) (ts : List Tm) (room : Int) (w : World) (hd : aU w B b r vt ts room) :
    Calls prog 287 #[.pointer (some ⟨b,0,none⟩)] w fun e w' => e = .returned (.int .i64 ts.length) ∧ w = w' := by
 have c0 := hd.blk.c0;obtain ⟨a,c,he⟩ : ∃ a c,vt = .slice a ts.length c := by
  rcases hd.row.2 with ⟨rfl,h0⟩ | ⟨g,cap,cur,rfl,_⟩
  · exact ⟨none,0,by rw [h0]⟩
  · exact ⟨_,_,rfl⟩
 rw [he] at c0;clear hd he;go_enter func287,ntmps287;go_wp2_with fail;go_ret;exact ⟨rfl,rfl⟩
noncomputable def af (ts : List Tm) (u : ByteArray) : Int := if eH ts (.iri u) = 0 then dM ts (.iri u) else ts.length
theorem pw (eb db sb : Nat) (ma : Option Nat) (code : Int) (B r : Nat) (vt : Value) (ts : List Tm) (room : Int) (u : ByteArray) (w : World) (hE : EvB w eb db sb ma code) (hd : aU w B db r vt ts room) (hs : (Tm.iri u).short) :
    Calls prog 237 #[.pointer (some ⟨eb,0,none⟩),.string u] w fun e w' => e = .returned (.int .i64 (af ts u)) ∧ Fr (fun _ => False) w w' := by
 have c0 := hE.c0;have hf := li w B db r vt ts room (.iri u) hd hs;have HF := Hd hf;have HE := Hd hE;have HD := Hd hd;have HP := Hd (show af ts u = if eH ts (.iri u) = 0 then dM ts (.iri u) else ts.length from rfl);generalize af ts u = pn at *;generalize dM ts (.iri u) = fn at *;generalize eH ts (.iri u) = fe at *;simp only [Tm.val] at HF;clear hE hd hf hs;go_enter func237,ntmps237;go_wp2_with fail;refine HF.mono ?_;rintro e1 w1 ⟨rfl,hf1⟩;have c1 := (HE.fr hf1 id).c0;have HL := Hd (AG B db r vt ts room w1 (HD.frF hf1));have HF1 := Hd hf1;clear hf1;by_cases h0 : fe = 0
 · have hp : pn = fn := by rw [HP.out,if_pos h0]
   subst hp;subst h0;go_wp2_with fail;go_ret;exact ⟨rfl,HF1⟩
 · have hp : pn = ts.length := by rw [HP.out,if_neg h0]
   subst hp;have h0' : (fe == 0) = false := by simpa using h0
   go_wp2_with fail;refine HL.mono ?_;rintro e2 w2 ⟨rfl,rfl⟩;go_wp2_with fail;go_ret;exact ⟨rfl,HF1⟩
theorem fG (eb : Nat) (v : ByteArray) (w : World) :
    Calls prog 231 #[.pointer (some ⟨eb,0,none⟩),.agg #[.string v,.nilIface]] w fun e w' => e = .returned (.tuple #[.int .i64 (-1),.bool true]) ∧ Fr (fun _ => False) w w' := by
 go_enter func231,ntmps231;go_wp2_with fail;go_ret2;exact ⟨rfl,(Fr.refl _ w).alloc _⟩
theorem iT (eb db sb : Nat) (ma : Option Nat) (code : Int) (B r : Nat) (vt : Value) (ts : List Tm) (room : Int) (v u : ByteArray) (w : World) (hE : EvB w eb db sb ma code) (hd : aU w B db r vt ts room) (hs : (Tm.iri u).short) :
    Calls prog 231 #[.pointer (some ⟨eb,0,none⟩),.agg #[.string v,.iface 207 (.agg #[.string u])]] w fun e w' => e = .returned (.tuple #[.int .i64 (dM ts (.iri u)),.bool (decide (eH ts (.iri u) = 0))]) ∧ Fr (fun _ => False) w w' := by
 have hf0 := Fr.a1 w (.cells #[.string v,.iface 207 (.agg #[.string u])] 171);have hx := Blk.new w 171 #[.string v,.iface 207 (.agg #[.string u])];have HFI := Hd (fun W (h : Fr (fun _ => False) w W) => li W B db r vt ts room (.iri u) (hd.frF h) hs);have HF0 := Hd hf0;have HSX := Hd (show ∀ wy,Fr (fun _ => False) (w.alloc (.cells #[.string v,.iface 207 (.agg #[.string u])] 171)) wy → wy.cell? ⟨eb,0,none⟩ = some (.pointer (some ⟨db,0,none⟩)) ∧ wy.cell? ⟨w.heap.size,1,none⟩ = some (.iface 207 (.agg #[.string u])) from fun wy hf => ⟨(Blk.fr hE (hf0.trans' hf) id).cell 0,(hx.fr hf id).cell 1⟩);generalize dM ts (.iri u) = fn at *;generalize eH ts (.iri u) = fe at *;simp only [Tm.val] at HFI;clear hE hd hs hf0 hx;go_enter func231,ntmps231;go_wp2_with fail;generalize (w.alloc (.cells #[.string v,.iface 207 (.agg #[.string u])] 171)) = W1 at *
 go_region_held3 (fun wy => wy.cell? ⟨eb,0,none⟩ = some (.pointer (some ⟨db,0,none⟩)) ∧ wy.cell? ⟨w.heap.size,1,none⟩ = some (.iface 207 (.agg #[.string u]))) (exact HSX _ fz) (first | (go_at_call 105; refine (HFI _ (HF0.trans' fz)).mono ?_; rintro e9 w9 ⟨rfl,hf9⟩))
 all_goals
  have HF9 := Hd (show Fr (fun _ => False) w _ from HF0.trans' (Fr.trans' (S := fun _ => False) (Fr.refl _ _).drew hf9));clear hf9;go_wp2_with fail;go_ret2;refine ⟨?_,HF9⟩
  first | rfl | (congr 1)
theorem xK (eb : Option Addr) (V A : Option Addr) (m vc n c : Nat) (w : World) (hn : n ≤ 20000) :
    Calls prog 124 #[.pointer eb,.agg #[.slice V m vc,.slice A n c]] w fun e w' => e = .returned (.agg #[.slice V m vc,.slice A n c]) ∧ Fr (fun _ => False) w w' := by
 have hn' : decide ((20000 : Int) < (n : Int)) = false := by simp; omega
 have h2 : Blk ((w.alloc (.cells #[.slice V m vc,.slice A n c] 47)).alloc (.cells #[.slice V m vc,.slice A n c] 47)) (w.heap.size + 1) 47 #[.slice V m vc,.slice A n c] := by
  have h := Blk.new (w.alloc (.cells #[.slice V m vc,.slice A n c] 47)) 47 #[.slice V m vc,.slice A n c];simpa using h
 have H2 := Hd h2;clear h2;go_enter func124,ntmps124;go_wp2_with fail;exact bodyPost_ret (v := .agg #[.slice V m vc,.slice A n c]) (results_cell_row rfl _ _ (w.heap.size + 1) 47 _ (0,0) _ rfl H2.out underlying47 rfl kr) rfl ⟨rfl,((Fr.refl _ w).alloc _).alloc _⟩
theorem Da (m : Nat) (hm : m = 1 ∨ m = 2) (w : World) : Calls prog 324 #[.int .u64 1,.int .u64 m] w fun e w' => e = .returned (.tuple #[.int .u64 0,.int .u64 m]) ∧ w = w' := by
 rcases hm with rfl | rfl
 all_goals
  go_enter func324,ntmps324;go_wp2_with fail;go_ret2;exact ⟨rfl,rfl⟩
theorem xL (m : Nat) (hm : m = 1 ∨ m = 2) (w : World) : Calls prog 282 #[.int .u64 1,.int .u64 m] w fun e w' => e = .returned (.tuple #[.int .u64 0,.int .u64 m]) ∧ w = w' := by
 have HM := Hd (Da m hm w);go_enter func282,ntmps282;go_wp2_with fail;refine HM.mono ?_;rintro e1 w1 ⟨rfl,rfl⟩;go_wp2_with fail;go_ret2;exact ⟨rfl,rfl⟩
theorem Db (V : Option Addr) (n c : Nat) (x : ByteArray) (ix : Int) (w : World) (h : Calls prog 280 #[.slice V n c,.string x] w fun e w' => e = .returned (.int .i64 ix) ∧ w' = w) :
    Calls prog 278 #[.slice V n c,.string x] w fun e w' => e = .returned (.bool (decide (0 ≤ ix))) ∧ w = w' := by
 have H := Hd h;clear h;go_enter func278,ntmps278;go_wp2_with fail;refine H.mono ?_;rintro e1 w1 ⟨rfl,rfl⟩;go_wp2_with fail;go_ret;exact ⟨rfl,rfl⟩
theorem Dc : (prog.info? 3).map (fun i => (i.zero,i.size,i.bytes)) = some (some (.int .i64 0),1,8) := kr
theorem Cu : (prog.info? 3).map (·.size) = some 1 := kr
theorem nO (b : Nat) (x : Int) (w : World) (hb : Blk w b 3 #[.int .i64 x]) :
    Calls prog 281 #[.slice (some ⟨b,0,none⟩) 1 1,.int .i64 2] w fun e w' => ∃ X,e = .returned (.slice (some ⟨X,0,none⟩) 2 2) ∧ w.heap.size ≤ X ∧ Blk w' X 3 #[.int .i64 x,.int .i64 x] ∧ Fr (fun _ => False) w w' := by
 have HM := Hd (xL 2 (.inr rfl) w);have hW1 := Blk.new w 3 #[.int .i64 0,.int .i64 0];have hb1 := hb.alloc (.cells #[.int .i64 0,.int .i64 0] 3);have hcp1 : ∀ ty,(Builtin.copy_ #[99,99] ty #[.slice (some ⟨w.heap.size,0,none⟩) 2 2,.slice (some ⟨b,0,none⟩) 1 1]).run prog (w.alloc (.cells #[.int .i64 0,.int .i64 0] 3)) = .ok (goInt ((1 : Nat) : Int)) ((w.alloc (.cells #[.int .i64 0,.int .i64 0] 3)).setRow w.heap.size #[.int .i64 x,.int .i64 0]) := fun ty =>
  cg 99 ty 3 1 underlying99 Cu hW1 0 2 2 ⟨b,0,none⟩ 1 1 1 [.int .i64 x] rfl rfl (World.news_of_block hb1) (by simp) (by intro u hu; rw [List.mem_singleton.1 hu]; rfl)
 obtain ⟨W2,hW2⟩ : ∃ W2,W2 = (w.alloc (.cells #[.int .i64 0,.int .i64 0] 3)).setRow w.heap.size #[.int .i64 x,.int .i64 0] := ⟨_,rfl⟩;rw [← hW2] at hcp1;have hB2 : Blk W2 w.heap.size 3 #[.int .i64 x,.int .i64 0] := by rw [hW2]; exact cf hW1 _
 have hF2 : Fr (fun _ => False) w W2 := by rw [hW2]; exact dr ((Fr.refl _ w).alloc _) _ (fun h => absurd h (Nat.lt_irrefl _))
 have hcp2 : ∀ ty,(Builtin.copy_ #[99,99] ty #[.slice (some ⟨w.heap.size,1,none⟩) 1 1,.slice (some ⟨w.heap.size,0,none⟩) 1 2]).run prog W2.drew = .ok (goInt ((1 : Nat) : Int)) (W2.drew.setRow w.heap.size #[.int .i64 x,.int .i64 x]) := fun ty =>
  cg 99 ty 3 1 underlying99 Cu (Blk.drew hB2) 1 1 1 ⟨w.heap.size,0,none⟩ 1 2 1 [.int .i64 x] rfl rfl (fun j v h => by
   have hj : j = 0 := by
    rcases j with _ | j
    · rfl
    · simp at h
   subst hj;simp at h;subst h;exact hB2.cell 0) (by simp) (by intro u hu; rw [List.mem_singleton.1 hu]; rfl)
 have HF3 := Hd (dr (S := fun _ => False) hF2.drew #[.int .i64 x,.int .i64 x] (fun h => absurd h (Nat.lt_irrefl _)));have HB3 := Hd (cf (Blk.drew hB2) #[.int .i64 x,.int .i64 x]);obtain ⟨i0,hi0,hz0,hz1,hz2⟩ := info_parts Dc;have hmk : (Instr.makeSlice 99 (.int .i64 2) (.int .i64 2)).run prog w = .ok (.slice (some ⟨w.heap.size,0,none⟩) 2 2) (w.alloc (.cells #[.int .i64 0,.int .i64 0] 3)) := by
  have h := run_makeSlice (P := prog) w 99 3 i0 _ underlying99 hi0 hz0 .i64 .i64 2 2 de de (by rw [hz1]; decide) (by rw [hz2]; decide) de;rw [hz1,show madeCells (Value.int .i64 0).cells (Int.toNat 2 * 1) = #[.int .i64 0,.int .i64 0] by kernel_rfl] at h;exact h
 clear hi0 hz0 hz1 hz2;have hw2 : IntKind.i64.wrap 2 = 2 := de;have mixed : prog.follows Departure.mixedOrders = true := kr;clear hB2 hF2 hW1 hb1 hb hW2;go_enter func281,ntmps281;go_wp2_with fail;refine HM.mono ?_;rintro e1 w1 ⟨rfl,rfl⟩;go_wp2_with fail
 go_loopw [8] (fun nv wr => (nv = .int .i64 1 ∧ wr = W2) ∨ (nv = .int .i64 2 ∧ wr = W2.drew.setRow w.heap.size #[.int .i64 x,.int .i64 x])) (fun nv _ => 2 - (intOf nv).toNat)
 case atStart => exact .inl ⟨rfl,rfl⟩
 case round =>
  rcases hrel with ⟨rfl,rfl⟩ | ⟨rfl,rfl⟩
  · go_wp2_with fail
    go_region_law_o (refine step_copy_runI rfl _ _ 99 99 rfl (.slice (some ⟨w.heap.size,1,none⟩) 1 1) (.slice (some ⟨w.heap.size,0,none⟩) 1 2) (by simp [Act.eval,Act.put]) (by simp [Act.eval,Act.put]) (hcp2 _) ?_)
    all_goals
     go_wp2_with fail;go_simp;simp [intOf]
  · go_wp2_with fail;go_ret;exact ⟨w.heap.size,rfl,Nat.le_refl _,HB3,HF3⟩
theorem AH : (prog.info? 99).map (fun i => (i.zero,i.size,i.bytes)) = some (some (.slice none 0 0),1,24) := kr
theorem Dd : (prog.info? 99).map (·.size) = some 1 := kr
theorem vF (b : Nat) (R : Option Addr) (k c : Nat) (w : World) (hb : Blk w b 99 #[.slice R k c]) :
    Calls prog 234 #[.slice (some ⟨b,0,none⟩) 1 1,.int .i64 1] w fun e w' => ∃ X,e = .returned (.slice (some ⟨X,0,none⟩) 1 1) ∧ w.heap.size ≤ X ∧ Blk w' X 99 #[.slice R k c] ∧ Fr (fun _ => False) w w' := by
 have HM := Hd (xL 1 (.inl rfl) w);have hW1 := Blk.new w 99 #[.slice none 0 0];have hb1 := hb.alloc (.cells #[.slice none 0 0] 99);have hcp1 : ∀ ty,(Builtin.copy_ #[45,45] ty #[.slice (some ⟨w.heap.size,0,none⟩) 1 1,.slice (some ⟨b,0,none⟩) 1 1]).run prog (w.alloc (.cells #[.slice none 0 0] 99)) = .ok (goInt ((1 : Nat) : Int)) ((w.alloc (.cells #[.slice none 0 0] 99)).setRow w.heap.size #[.slice R k c]) := fun ty =>
  cg 45 ty 99 1 underlying45 Dd hW1 0 1 1 ⟨b,0,none⟩ 1 1 1 [.slice R k c] rfl rfl (World.news_of_block hb1) (by simp) (by intro u hu; rw [List.mem_singleton.1 hu]; rfl)
 obtain ⟨W2,hW2⟩ : ∃ W2,W2 = (w.alloc (.cells #[.slice none 0 0] 99)).setRow w.heap.size #[.slice R k c] := ⟨_,rfl⟩;rw [← hW2] at hcp1;have HB2 := Hd (show Blk W2 w.heap.size 99 #[.slice R k c] by rw [hW2]; exact cf hW1 _);have HF2 := Hd (show Fr (fun _ => False) w W2 by rw [hW2]; exact dr ((Fr.refl _ w).alloc _) _ (fun h => absurd h (Nat.lt_irrefl _)));obtain ⟨i0,hi0,hz0,hz1,hz2⟩ := info_parts AH;have hmk : (Instr.makeSlice 45 (.int .i64 1) (.int .i64 1)).run prog w = .ok (.slice (some ⟨w.heap.size,0,none⟩) 1 1) (w.alloc (.cells #[.slice none 0 0] 99)) := by
  have h := run_makeSlice (P := prog) w 45 99 i0 _ underlying45 hi0 hz0 .i64 .i64 1 1 de de (by rw [hz1]; decide) (by rw [hz2]; decide) de;rw [hz1,show madeCells (Value.slice none 0 0).cells (Int.toNat 1 * 1) = #[.slice none 0 0] by kernel_rfl] at h;exact h
 clear hi0 hz0 hz1 hz2 hW1 hb1 hb hW2;go_enter func234,ntmps234;go_wp2_with fail;refine HM.mono ?_;rintro e1 w1 ⟨rfl,rfl⟩;go_wp2_with fail
 go_loopw [8] (fun nv wr => nv = .int .i64 1 ∧ wr = W2) (fun _ _ => 0)
 case atStart => exact ⟨rfl,rfl⟩
 case round =>
  obtain ⟨rfl,rfl⟩ := hrel;go_wp2_with fail;go_ret;exact ⟨w.heap.size,rfl,Nat.le_refl _,HB2,HF2⟩
def ndT (p : ByteArray × Option ByteArray) : Value := match p.2 with | none => .nilIface | some u => .iface 207 (.agg #[.string u])
def px (l : List (ByteArray × Option ByteArray)) : List Value := l.flatMap fun p => [.string p.1,ndT p]
theorem lS : ∀ (l : List (ByteArray × Option ByteArray)) (i : Nat) (p : ByteArray × Option ByteArray),l[i]? = some p → (px l)[i * 2]? = some (.string p.1) ∧ (px l)[i * 2 + 1]? = some (ndT p)
 | [],i,p,h => by simp at h
 | a :: l,0,p,h => by
  simp at h;subst h;exact ⟨rfl,rfl⟩
 | a :: l,i + 1,p,h => by
  have ih := lS l i p (by simpa using h);have e : (i + 1) * 2 = i * 2 + 1 + 1 := jj;rw [e];exact ih
def cy (out : List ByteArray) (p : ByteArray × Option ByteArray) : List ByteArray := if p.1.size ≠ 0 ∧ Lib.idxOfS out p.1 < 0 then out ++ [p.1] else out
def aC (l : List (ByteArray × Option ByteArray)) : List ByteArray := l.foldl cy []
theorem qK (h : a.size = 0) : a.toList = [] := by
 rw [ByteArray.toList_eq];exact List.length_eq_zero_iff.1 (by simpa using h)
theorem qL (h : a.toList = []) : a.size = 0 := by
 have := congrArg List.length h;simpa [ByteArray.toList_eq] using this
theorem du (l : List (ByteArray × Option ByteArray)) (p : ByteArray × Option ByteArray) : aC (l ++ [p]) = cy (aC l) p := by simp [aC]
theorem sD (l : List (ByteArray × Option ByteArray)) : (aC l).length ≤ l.length := by
 have h : ∀ (l : List (ByteArray × Option ByteArray)) (a : List ByteArray),(l.foldl cy a).length ≤ a.length + l.length := by
  intro l
  induction l with
  | nil => intro a; simp
  | cons p l ih =>
   intro a;have := ih (cy a p);have h2 : (cy a p).length ≤ a.length + 1 := by unfold cy; split <;> simp
   simp only [List.foldl_cons,List.length_cons];omega
 simpa [aC] using h l []
theorem lT (V : Option Addr) (n c B : Nat) (ss : List ByteArray) (x : ByteArray) (w : World) (hn : n ≤ 4096) (h : w.ownsRow B 9 1 (.slice V n c) n (ss.map .string)) :
    Calls prog 280 #[.slice V n c,.string x] w fun e w' => e = .returned (.int .i64 (Lib.idxOfS ss x)) ∧ w' = w := by
 have hl : ss.length = n := by have := h.1; simpa using this
 rcases h.2 with ⟨he,h0⟩ | ⟨g,cap,cur,he,_⟩
 · subst h0;rw [List.length_eq_zero_iff.1 hl];exact Tryz.slices_Index_string_empty V c x w
 · simp only [Value.slice.injEq,true_and] at he;obtain ⟨rfl,rfl⟩ := he;have h2 := Tryz.slices_Index_string g 0 n c ss x w jj jj (fun j hj => by
    have := h.cells (g := g) rfl j (.string (ss.getD j ByteArray.empty)) (by rw [List.getElem?_map,List.getD,List.getElem?_eq_getElem hj]; rfl);rw [Addr.add_lit] at this;exact this)
   rw [List.take_of_length_le jj] at h2;exact h2
def qM (w : World) (b : Nat) (l : List (ByteArray × Option ByteArray)) : Prop := Blk w b 171 (px l).toArray
theorem sE : (prog.info? 9).map (fun i => (i.zero,i.size,i.bytes)) = some (some (.string ⟨#[]⟩),1,16) := kr
def j8 (l : List (ByteArray × Option ByteArray)) (w : World) (e : Ending) (w' : World) : Prop := ∃ V c,e = .returned (.slice V (aC l).length c) ∧ w'.ownsRow w.heap.size 9 1 (.slice V (aC l).length c) (aC l).length ((aC l).map .string) ∧ Fr (fun _ => False) w w'
theorem lU (b : Nat) (l : List (ByteArray × Option ByteArray)) (w : World) (hl : l.length ≤ 100) (hb : qM w b l) :
    Calls prog 230 #[.slice (some ⟨b,0,none⟩) l.length l.length] w (j8 l w) := by
 have HB := Hd hb;have HPOST := Hd (show ∀ e w',j8 l w e w' → j8 l w e w' from fun _ _ h => h);obtain ⟨i0,hi0,hz0,hz1,hz2⟩ := info_parts sE;generalize hn : l.length = n at *;have HN := Hd hn;clear hb hn;go_enter func230,ntmps230;go_wp2_with fail
 go_loopw [3,8] (fun ov iv wr => ∃ (i : Nat) (V : Option Addr) (c : Nat),iv = .int .i64 (i : Int) ∧ i ≤ n ∧ ov = .slice V (aC (l.take i)).length c ∧ wr.ownsRow w.heap.size 9 1 (.slice V (aC (l.take i)).length c) (aC (l.take i)).length ((aC (l.take i)).map .string) ∧ Fr (fun _ => False) w wr) (fun _ iv _ => n - (intOf iv).toNat)
 case atStart => exact ⟨0,none,0,rfl,Nat.zero_le _,rfl,World.ownsRow_nil _ _ _ _,Fr.refl _ _⟩
 case round =>
  obtain ⟨i,V,c,rfl,hi,rfl,hrow,hfr⟩ := hrel;have HROW := Hd hrow;have HFR := Hd hfr;by_cases hlt : i < n
  · obtain ⟨p,hp⟩ : ∃ p,l[i]? = some p := ⟨_,List.getElem?_eq_getElem (by rw [HN.out]; exact hlt)⟩;have hat := lS l i p hp;have hbr := HB.fr hfr id;have x0 : wr.cell? ⟨b,i * 2,none⟩ = some (.string p.1) := by
     rw [Blk.cell hbr];simpa using hat.1
    have x1 : wr.cell? ⟨b,i * 2 + 1,none⟩ = some (ndT p) := by
     rw [Blk.cell hbr];simpa using hat.2
    have htk : l.take (i + 1) = l.take i ++ [p] := by rw [List.take_add_one,hp]; rfl
    have HTK := Hd htk;have hnl : (aC (l.take i)).length ≤ 4096 := by
     have := sD (l.take i);rw [List.length_take] at this;omega
    have HIX := Hd (fun (x : ByteArray) W (h : Fr (fun _ => False) wr W) => Db V _ c x _ W (lT V _ c _ _ x W hnl (aa hrow h ii)));obtain ⟨pv,pt⟩ := p;clear hrow hfr hat hbr htk hp;cases pt with
    | none =>
     simp only [ndT] at x1;go_wp2_with fail
     · rename_i hz;have hst : aC (l.take (i + 1)) = aC (l.take i) := by
        rw [HTK.out,du];unfold cy;rw [if_neg (fun h => h.1 (by rw [qL hz]))]
       go_roundw
       case rel => exact ⟨i + 1,V,c,by simp,by omega,by rw [hst],by rw [hst]; exact HROW.alloc _,HFR.alloc _⟩
       case measure => simp [intOf]; omega
     · refine (HIX _ _ ((Fr.refl _ wr).alloc _)).mono ?_;rintro e2 w2 ⟨rfl,rfl⟩;have hz' : pv.size ≠ 0 := fun h => absurd (qK h) (by assumption);have hie : pv.toList.isEmpty = false := by
        rw [List.isEmpty_eq_false_iff];assumption
       by_cases hix : 0 ≤ Lib.idxOfS (aC (l.take i)) pv
       · have hst : aC (l.take (i + 1)) = aC (l.take i) := by
          rw [HTK.out,du];unfold cy;rw [if_neg (fun h => by have := h.2; dsimp only at this; omega)]
         have hd : decide (0 ≤ Lib.idxOfS (aC (l.take i)) pv) = true := decide_eq_true hix;rw [hd];clear hix hd;go_wp2_with fail;go_roundw
         case rel => exact ⟨i + 1,V,c,by simp,by omega,by rw [hst],by rw [hst]; exact HROW.alloc _,HFR.alloc _⟩
         case measure => simp [intOf]; omega
       · have hst : aC (l.take (i + 1)) = aC (l.take i) ++ [pv] := by
          rw [HTK.out,du];unfold cy;rw [if_pos ⟨hz',by dsimp only; omega⟩]
         have hd : decide (0 ≤ Lib.idxOfS (aC (l.take i)) pv) = false := decide_eq_false hix;rw [hd];clear hix hd;have hwl := HFR.size;have HB9 := Hd (show ∀ o,Blk ((wr.alloc o).alloc (.cells #[.string pv] 9)) (wr.heap.size + 1) 9 #[.string pv] from fun o => by
          have h := Blk.new (wr.alloc o) 9 #[.string pv];simpa using h)
         go_wp2_with (at_builtin; refine cx rfl _ _ 31 rfl w.heap.size 9 (.string ⟨#[]⟩) 1 16 underlying31 sE rfl de (.slice V (aC (l.take i)).length c) (aC (l.take i)).length ((aC (l.take i)).map .string) rfl ((HROW.alloc _).alloc _) (wr.heap.size + 1) #[.string pv] rfl (HB9 _) ⟨rfl,by simp [Value.oneCell']⟩ jj de (by simp; omega) (Hd ?_); intro g3 cap3 w3 hown3 hgr3 hor3);go_roundw
         case rel =>
          have hln : (aC (l.take i) ++ [pv]).length = (aC (l.take i)).length + 1 := by simp
          refine ⟨i + 1,some ⟨g3,0,none⟩,cap3,by simp,by omega,by rw [hst,hln],?_,((HFR.alloc _).alloc _).grown hgr3 (fun k hk e => absurd (bs HROW.out e) jj)⟩;rw [hst,hln,List.map_append];exact hown3
         case measure => simp [intOf]; omega
    | some u =>
     simp only [ndT] at x1;go_wp2_with fail
     · rename_i hz;have hst : aC (l.take (i + 1)) = aC (l.take i) := by
        rw [HTK.out,du];unfold cy;rw [if_neg (fun h => h.1 (by rw [qL hz]))]
       go_roundw
       case rel => exact ⟨i + 1,V,c,by simp,by omega,by rw [hst],by rw [hst]; exact HROW.alloc _,HFR.alloc _⟩
       case measure => simp [intOf]; omega
     · refine (HIX _ _ ((Fr.refl _ wr).alloc _)).mono ?_;rintro e2 w2 ⟨rfl,rfl⟩;have hz' : pv.size ≠ 0 := fun h => absurd (qK h) (by assumption);have hie : pv.toList.isEmpty = false := by
        rw [List.isEmpty_eq_false_iff];assumption
       by_cases hix : 0 ≤ Lib.idxOfS (aC (l.take i)) pv
       · have hst : aC (l.take (i + 1)) = aC (l.take i) := by
          rw [HTK.out,du];unfold cy;rw [if_neg (fun h => by have := h.2; dsimp only at this; omega)]
         have hd : decide (0 ≤ Lib.idxOfS (aC (l.take i)) pv) = true := decide_eq_true hix;rw [hd];clear hix hd;go_wp2_with fail;go_roundw
         case rel => exact ⟨i + 1,V,c,by simp,by omega,by rw [hst],by rw [hst]; exact HROW.alloc _,HFR.alloc _⟩
         case measure => simp [intOf]; omega
       · have hst : aC (l.take (i + 1)) = aC (l.take i) ++ [pv] := by
          rw [HTK.out,du];unfold cy;rw [if_pos ⟨hz',by dsimp only; omega⟩]
         have hd : decide (0 ≤ Lib.idxOfS (aC (l.take i)) pv) = false := decide_eq_false hix;rw [hd];clear hix hd;have hwl := HFR.size;have HB9 := Hd (show ∀ o,Blk ((wr.alloc o).alloc (.cells #[.string pv] 9)) (wr.heap.size + 1) 9 #[.string pv] from fun o => by
          have h := Blk.new (wr.alloc o) 9 #[.string pv];simpa using h)
         go_wp2_with (at_builtin; refine cx rfl _ _ 31 rfl w.heap.size 9 (.string ⟨#[]⟩) 1 16 underlying31 sE rfl de (.slice V (aC (l.take i)).length c) (aC (l.take i)).length ((aC (l.take i)).map .string) rfl ((HROW.alloc _).alloc _) (wr.heap.size + 1) #[.string pv] rfl (HB9 _) ⟨rfl,by simp [Value.oneCell']⟩ jj de (by simp; omega) (Hd ?_); intro g3 cap3 w3 hown3 hgr3 hor3);go_roundw
         case rel =>
          have hln : (aC (l.take i) ++ [pv]).length = (aC (l.take i)).length + 1 := by simp
          refine ⟨i + 1,some ⟨g3,0,none⟩,cap3,by simp,by omega,by rw [hst,hln],?_,((HFR.alloc _).alloc _).grown hgr3 (fun k hk e => absurd (bs HROW.out e) jj)⟩;rw [hst,hln,List.map_append];exact hown3
         case measure => simp [intOf]; omega
  · have hie : i = n := jj;subst hie;have htk : l.take i = l := List.take_of_length_le (by rw [HN.out]; exact Nat.le_refl _);rw [htk] at HROW ⊢;have HFI := Hd (HPOST _ wr ⟨V,c,rfl,HROW,HFR⟩);go_wp2_with fail;go_ret;exact HFI
def EU (k0 k2 : Int) (i : Nat) : Array Value := if i = 0 then #[.int .i64 (-1),.int .i64 (-1)] else if i ≤ 2 then #[.int .i64 k0,.int .i64 (-1)] else #[.int .i64 k0,.int .i64 k2]
theorem De (V : Option Addr) (vc B : Nat) (x y u : ByteArray) (k0 k1 k2 : Int) (b nb nc : Nat) (w : World) (hv : w.ownsRow B 9 1 (.slice V 2 vc) 2 [.string x,.string y]) (hn : qM w b [(x,none),(⟨#[]⟩,some u),(y,none)])
    (h0 : w.cell? ⟨nb,0,none⟩ = some (.int .i64 k0)) (h2 : w.cell? ⟨nb,2,none⟩ = some (.int .i64 k2))
    (hi0 : Lib.idxOfS [x,y] x = 0) (hi1 : Lib.idxOfS [x,y] ⟨#[]⟩ = -1) (hi2 : Lib.idxOfS [x,y] y = 1) :
    Calls prog 233 #[.slice V 2 vc,.slice (some ⟨b,0,none⟩) 3 3,.slice (some ⟨nb,0,none⟩) 3 nc] w fun e w' => ∃ X,e = .returned (.tuple #[.slice (some ⟨X,0,none⟩) 2 2,.bool true]) ∧ w.heap.size ≤ X ∧ Blk w' X 3 #[.int .i64 k0,.int .i64 k2] ∧ Fr (fun _ => False) w w' := by
 have HRP := Hd (nO w.heap.size (-1) (w.alloc (.cells #[.int .i64 (-1)] 3)) (Blk.new w 3 _));have HIX := Hd (fun (z : ByteArray) W (h : Fr (fun _ => False) w W) => lT V 2 vc B [x,y] z W de (aa hv h ii));have HN := Hd hn;have H0 := Hd h0;have H2 := Hd h2;have HI0 := Hd hi0;have HI1 := Hd hi1;have HI2 := Hd hi2;clear hv hn h0 h2 hi0 hi1 hi2;go_enter func233,ntmps233;go_wp2_with fail;refine HRP.out.mono ?_;rintro e1 w1 ⟨X,rfl,hX,hBX,hf1⟩;have HBX := Hd hBX;have HF1 := Hd (show Fr (fun _ => False) w w1 from Fr.trans' (S := fun _ => False) ((Fr.refl _ w).alloc _) hf1);have hXw : w.heap.size < X := by
  have := hX;simp at this;omega
 clear hBX hf1 hX;go_wp2_with fail
 go_loopw [18] (fun iv wr => ∃ i : Nat,iv = .int .i64 (i : Int) ∧ i ≤ 3 ∧ Blk wr X 3 (EU k0 k2 i) ∧ Fr (fun j => j = X) w wr) (fun iv _ => 3 - (intOf iv).toNat)
 case atStart => exact ⟨0,rfl,by decide,HBX.out,HF1.out.mono uu⟩
 case round =>
  obtain ⟨i,rfl,hi,hbx,hfr⟩ := hrel;have HBX := Hd hbx;have HFR := Hd hfr;have HFW := Hd (show Fr (fun _ => False) w wr from hfr.mono (fun j hj e => by have e : j = X := e; omega));have hnr := HN.out.fr hfr (fun e => by have := HN.out.lt; omega);have hc0 : wr.cell? ⟨nb,0,none⟩ = some (.int .i64 k0) := aG HFW.out H0.out;have hc2 : wr.cell? ⟨nb,2,none⟩ = some (.int .i64 k2) := aG HFW.out H2.out;obtain rfl | rfl | rfl | rfl : i = 0 ∨ i = 1 ∨ i = 2 ∨ i = 3 := jj
  · have y0 : wr.cell? ⟨b,0,none⟩ = some (.string x) := hnr.cell 0;have y1 : wr.cell? ⟨b,1,none⟩ = some .nilIface := hnr.cell 1;clear hfr hnr;have z0 : ∀ o,(wr.alloc o).cell? ⟨X,0,none⟩ = some (.int .i64 (-1)) := fun o => (HBX.out.alloc o).cell 0;have zf : ∀ o,(wr.alloc o).frozen? ⟨X,0,none⟩ = false := fun o => (HBX.out.alloc o).frozen 0;have c0 : ∀ o,(wr.alloc o).cell? ⟨nb,0,none⟩ = some (.int .i64 k0) := fun o => aG ((Fr.refl (fun _ => False) wr).alloc o) hc0;go_wp2_with (go_at_call 280; refine (HIX.out x _ (HFW.out.alloc _)).mono ?_; rintro e2 w2 ⟨rfl,rfl⟩; rw [HI0.out])
    go_quiet (fail);go_wp2_with fail;go_roundw
    case rel => exact ⟨1,rfl,by decide,(HBX.out.alloc _).set_ 0 _,(((HFR.out.alloc _).drewN _).setCell ⟨X,0,none⟩ (fun _ => rfl) _)⟩
    case measure => simp [intOf]
  · have y0 : wr.cell? ⟨b,2,none⟩ = some (.string ⟨#[]⟩) := hnr.cell 2;have y1 : wr.cell? ⟨b,3,none⟩ = some (.iface 207 (.agg #[.string u])) := hnr.cell 3;clear hfr hnr;go_wp2_with (go_at_call 280; refine (HIX.out ⟨#[]⟩ _ (HFW.out.alloc _)).mono ?_; rintro e2 w2 ⟨rfl,rfl⟩; rw [HI1.out]);go_roundw
    case rel => exact ⟨2,rfl,by decide,HBX.out.alloc _,HFR.out.alloc _⟩
    case measure => simp [intOf]
  · have y0 : wr.cell? ⟨b,4,none⟩ = some (.string y) := hnr.cell 4;have y1 : wr.cell? ⟨b,5,none⟩ = some .nilIface := hnr.cell 5;clear hfr hnr;have z0 : ∀ o,(wr.alloc o).cell? ⟨X,1,none⟩ = some (.int .i64 (-1)) := fun o => (HBX.out.alloc o).cell 1;have zf : ∀ o,(wr.alloc o).frozen? ⟨X,1,none⟩ = false := fun o => (HBX.out.alloc o).frozen 1;have c0 : ∀ o,(wr.alloc o).cell? ⟨nb,2,none⟩ = some (.int .i64 k2) := fun o => aG ((Fr.refl (fun _ => False) wr).alloc o) hc2;go_wp2_with (go_at_call 280; refine (HIX.out y _ (HFW.out.alloc _)).mono ?_; rintro e2 w2 ⟨rfl,rfl⟩; rw [HI2.out])
    go_quiet (fail);go_wp2_with fail;go_roundw
    case rel => exact ⟨3,rfl,by decide,(HBX.out.alloc _).set_ 1 _,(((HFR.out.alloc _).drewN _).setCell ⟨X,1,none⟩ (fun _ => rfl) _)⟩
    case measure => simp [intOf]
  · clear hfr hnr;go_wp2_with fail;go_ret2;exact ⟨X,rfl,by omega,HBX.out,HFW.out⟩
def EV (k0 k2 : Int) (i : Nat) : Array Value := if i = 0 then #[.int .i64 (-1),.int .i64 (-1)] else if i ≤ 1 then #[.int .i64 k0,.int .i64 (-1)] else #[.int .i64 k0,.int .i64 k2]
theorem Df (V : Option Addr) (vc B : Nat) (x y : ByteArray) (k0 k2 : Int) (b nb nc : Nat) (w : World) (hv : w.ownsRow B 9 1 (.slice V 2 vc) 2 [.string x,.string y]) (hn : qM w b [(x,none),(y,none)])
    (h0 : w.cell? ⟨nb,0,none⟩ = some (.int .i64 k0)) (h2 : w.cell? ⟨nb,1,none⟩ = some (.int .i64 k2))
    (hi0 : Lib.idxOfS [x,y] x = 0) (hi2 : Lib.idxOfS [x,y] y = 1) :
    Calls prog 233 #[.slice V 2 vc,.slice (some ⟨b,0,none⟩) 2 2,.slice (some ⟨nb,0,none⟩) 2 nc] w fun e w' => ∃ X,e = .returned (.tuple #[.slice (some ⟨X,0,none⟩) 2 2,.bool true]) ∧ w.heap.size ≤ X ∧ Blk w' X 3 #[.int .i64 k0,.int .i64 k2] ∧ Fr (fun _ => False) w w' := by
 have HRP := Hd (nO w.heap.size (-1) (w.alloc (.cells #[.int .i64 (-1)] 3)) (Blk.new w 3 _));have HIX := Hd (fun (z : ByteArray) W (h : Fr (fun _ => False) w W) => lT V 2 vc B [x,y] z W de (aa hv h ii));have HN := Hd hn;have H0 := Hd h0;have H2 := Hd h2;have HI0 := Hd hi0;have HI2 := Hd hi2;clear hv hn h0 h2 hi0 hi2;go_enter func233,ntmps233;go_wp2_with fail;refine HRP.out.mono ?_;rintro e1 w1 ⟨X,rfl,hX,hBX,hf1⟩;have HBX := Hd hBX;have HF1 := Hd (show Fr (fun _ => False) w w1 from Fr.trans' (S := fun _ => False) ((Fr.refl _ w).alloc _) hf1);have hXw : w.heap.size < X := by
  have := hX;simp at this;omega
 clear hBX hf1 hX;go_wp2_with fail
 go_loopw [18] (fun iv wr => ∃ i : Nat,iv = .int .i64 (i : Int) ∧ i ≤ 2 ∧ Blk wr X 3 (EV k0 k2 i) ∧ Fr (fun j => j = X) w wr) (fun iv _ => 2 - (intOf iv).toNat)
 case atStart => exact ⟨0,rfl,by decide,HBX.out,HF1.out.mono uu⟩
 case round =>
  obtain ⟨i,rfl,hi,hbx,hfr⟩ := hrel;have HBX := Hd hbx;have HFR := Hd hfr;have HFW := Hd (show Fr (fun _ => False) w wr from hfr.mono (fun j hj e => by have e : j = X := e; omega));have hnr := HN.out.fr hfr (fun e => by have := HN.out.lt; omega);have hc0 : wr.cell? ⟨nb,0,none⟩ = some (.int .i64 k0) := aG HFW.out H0.out;have hc2 : wr.cell? ⟨nb,1,none⟩ = some (.int .i64 k2) := aG HFW.out H2.out;obtain rfl | rfl | rfl : i = 0 ∨ i = 1 ∨ i = 2 := jj
  · have y0 : wr.cell? ⟨b,0,none⟩ = some (.string x) := hnr.cell 0;have y1 : wr.cell? ⟨b,1,none⟩ = some .nilIface := hnr.cell 1;clear hfr hnr;have z0 : ∀ o,(wr.alloc o).cell? ⟨X,0,none⟩ = some (.int .i64 (-1)) := fun o => (HBX.out.alloc o).cell 0;have zf : ∀ o,(wr.alloc o).frozen? ⟨X,0,none⟩ = false := fun o => (HBX.out.alloc o).frozen 0;have c0 : ∀ o,(wr.alloc o).cell? ⟨nb,0,none⟩ = some (.int .i64 k0) := fun o => aG ((Fr.refl (fun _ => False) wr).alloc o) hc0;go_wp2_with (go_at_call 280; refine (HIX.out x _ (HFW.out.alloc _)).mono ?_; rintro e2 w2 ⟨rfl,rfl⟩; rw [HI0.out])
    go_quiet (fail);go_wp2_with fail;go_roundw
    case rel => exact ⟨1,rfl,by decide,(HBX.out.alloc _).set_ 0 _,(((HFR.out.alloc _).drewN _).setCell ⟨X,0,none⟩ (fun _ => rfl) _)⟩
    case measure => simp [intOf]
  · have y0 : wr.cell? ⟨b,2,none⟩ = some (.string y) := hnr.cell 2;have y1 : wr.cell? ⟨b,3,none⟩ = some .nilIface := hnr.cell 3;clear hfr hnr;have z0 : ∀ o,(wr.alloc o).cell? ⟨X,1,none⟩ = some (.int .i64 (-1)) := fun o => (HBX.out.alloc o).cell 1;have zf : ∀ o,(wr.alloc o).frozen? ⟨X,1,none⟩ = false := fun o => (HBX.out.alloc o).frozen 1;have c0 : ∀ o,(wr.alloc o).cell? ⟨nb,1,none⟩ = some (.int .i64 k2) := fun o => aG ((Fr.refl (fun _ => False) wr).alloc o) hc2;go_wp2_with (go_at_call 280; refine (HIX.out y _ (HFW.out.alloc _)).mono ?_; rintro e2 w2 ⟨rfl,rfl⟩; rw [HI2.out])
    go_quiet (fail);go_wp2_with fail;go_roundw
    case rel => exact ⟨2,rfl,by decide,(HBX.out.alloc _).set_ 1 _,(((HFR.out.alloc _).drewN _).setCell ⟨X,1,none⟩ (fun _ => rfl) _)⟩
    case measure => simp [intOf]
  · clear hfr hnr;go_wp2_with fail;go_ret2;exact ⟨X,rfl,by omega,HBX.out,HFW.out⟩
def fU (f : ByteArray → Int) : List ByteArray → List Int → Bool
 | v :: vs,n :: x => !(decide (0 ≤ f v) && decide (0 ≤ n) && decide (f v ≠ n)) && fU f vs x
 | _,_ => true
theorem mT (f : ByteArray → Int) (V A XA YA TV TA : Option Addr) (m vc na ca xc tm tvc tna tca yn yc B Bx : Nat) (ss : List ByteArray) (xs : List Int) (w : World) (hm : ss.length = m) (hxl : xs.length = m) (hm2 : m ≤ 4096)
    (hs : w.ownsRow B 9 1 (.slice V m vc) m (ss.map .string)) (hx : w.ownsRow Bx 3 1 (.slice XA m xc) m (xs.map (.int .i64)))
    (hv : ∀ v ∈ ss,∀ W,Fr (fun _ => False) w W → Calls prog 87 #[.agg #[.slice TV tm tvc,.slice TA tna tca],.slice YA yn yc,.string v] W fun e w' => e = .returned (.int .i64 (f v)) ∧ Fr (fun _ => False) W w') :
    Calls prog 228 #[.agg #[.slice V m vc,.slice A na ca],.agg #[.slice TV tm tvc,.slice TA tna tca],.slice XA m xc,.slice YA yn yc] w fun e w' => e = .returned (.bool (fU f ss xs)) ∧ Fr (fun _ => False) w w' := by
 have hf0 := Fr.a2 w (.cells #[.slice V m vc,.slice A na ca] 47) (.cells #[.slice TV tm tvc,.slice TA tna tca] 47);have hb1 : Blk ((w.alloc (.cells #[.slice V m vc,.slice A na ca] 47)).alloc (.cells #[.slice TV tm tvc,.slice TA tna tca] 47)) (w.heap.size + 1) 47 #[.slice TV tm tvc,.slice TA tna tca] := by
  have h := Blk.new (w.alloc (.cells #[.slice V m vc,.slice A na ca] 47)) 47 #[.slice TV tm tvc,.slice TA tna tca];simpa using h
 have HF0 := Hd hf0;have HB1 := Hd hb1;have HS := Hd hs;have HX := Hd hx;have HV := Hd hv;have HM := Hd hm;have HXL := Hd hxl;obtain ⟨r,hr⟩ : ∃ r,r = fU f ss xs := ⟨_,rfl⟩;rw [← hr];have HR := Hd hr;clear hf0 hb1 hs hx hv hm hxl hr;go_enter func228,ntmps228;go_wp2_with fail;generalize ((w.alloc (.cells #[.slice V m vc,.slice A na ca] 47)).alloc (.cells #[.slice TV tm tvc,.slice TA tna tca] 47)) = W1 at *
 go_loopw [15] (fun iv wr => ∃ i : Nat,iv = .int .i64 (i : Int) ∧ i ≤ m ∧ r = fU f (ss.drop i) (xs.drop i) ∧ Fr (fun _ => False) W1 wr) (fun iv _ => m - (intOf iv).toNat)
 case atStart => exact ⟨0,rfl,Nat.zero_le _,HR,Fr.refl _ _⟩
 case round =>
  obtain ⟨i,rfl,hi,hri,hfr⟩ := hrel;have HRI := Hd hri;have HFR := Hd hfr;have HFW := Hd (HF0.trans' hfr);by_cases hlt : i < m
  · obtain ⟨v,hv⟩ : ∃ v,ss[i]? = some v := ⟨_,List.getElem?_eq_getElem (by rw [HM.out]; exact hlt)⟩;obtain ⟨n,hn⟩ : ∃ n,xs[i]? = some n := ⟨_,List.getElem?_eq_getElem (by rw [HXL.out]; exact hlt)⟩;have hsr := aa HS.out HFW.out ii;have hxr := aa HX.out HFW.out ii;obtain ⟨g,cap,he,_,_⟩ := World.ownsRow.form hsr jj;simp only [Value.slice.injEq,true_and] at he;obtain ⟨rfl,rfl⟩ := he;obtain ⟨g2,cap2,he,_,_⟩ := World.ownsRow.form hxr jj;simp only [Value.slice.injEq,true_and] at he;obtain ⟨rfl,rfl⟩ := he;have c0 : wr.cell? ⟨g,i,none⟩ = some (.string v) := by
     rw [World.ownsRow.cellAt hsr i jj,List.getElem?_map,hv];rfl
    have c1 : wr.cell? ⟨g2,i,none⟩ = some (.int .i64 n) := by
     rw [World.ownsRow.cellAt hxr i jj,List.getElem?_map,hn];rfl
    have hbr := HB1.fr hfr id;have d0 := hbr.c0;have d1 := hbr.c1;have hstep : r = (!(decide (0 ≤ f v) && decide (0 ≤ n) && decide (f v ≠ n)) && fU f (ss.drop (i + 1)) (xs.drop (i + 1))) := by
     rw [HRI.out,List.drop_eq_getElem_cons (i := i) (by rw [HM.out]; exact hlt),List.drop_eq_getElem_cons (i := i) (l := xs) (by rw [HXL.out]; exact hlt)];obtain ⟨_,e1⟩ := List.getElem?_eq_some_iff.1 hv;obtain ⟨_,e2⟩ := List.getElem?_eq_some_iff.1 hn;rw [e1,e2];rfl
    have HST := Hd hstep;have HCV := Hd (HV.out v (List.mem_of_getElem? hv) wr HFW);have hi' : (i : Int) < (m : Int) := jj;generalize f v = fv at HST HCV;clear hfr hri hsr hxr hbr hstep hv hn;go_wp2_with fail;refine HCV.mono ?_;rintro e2 w2 ⟨rfl,hf2⟩;have c2 : w2.cell? ⟨g2,i,none⟩ = some (.int .i64 n) := aG hf2 c1;have HF2 := Hd hf2;clear hf2 c0 c1 d0 d1;by_cases h1 : 0 ≤ fv
    · have g1 : decide (0 ≤ fv) = true := decide_eq_true h1;by_cases h2 : 0 ≤ n
      · have g2' : decide (0 ≤ n) = true := decide_eq_true h2;by_cases h3 : fv = n
        · have g3 : (fv == n) = true := by simpa using h3
          have hrn : r = fU f (ss.drop (i + 1)) (xs.drop (i + 1)) := by
           rw [HST.out];simp [h3]
          have HRN := Hd hrn;clear hrn h3;go_wp2_with fail;go_roundw
          case rel => exact ⟨i + 1,by simp,by omega,HRN,HFR.trans' HF2⟩
          case measure => simp [intOf]; omega
        · have g3 : (fv == n) = false := by simpa using h3
          have hrf : r = false := by
           rw [HST.out];simp [h1,h2,h3]
          subst hrf;go_wp2_with fail;go_ret;exact ⟨rfl,HFW.trans' HF2⟩
      · have g2' : decide (0 ≤ n) = false := decide_eq_false h2;have hrn : r = fU f (ss.drop (i + 1)) (xs.drop (i + 1)) := by
         rw [HST.out];simp [h2]
        have HRN := Hd hrn;clear hrn;go_wp2_with fail;go_roundw
        case rel => exact ⟨i + 1,by simp,by omega,HRN,HFR.trans' HF2⟩
        case measure => simp [intOf]; omega
    · have g1 : decide (0 ≤ fv) = false := decide_eq_false h1;have hrn : r = fU f (ss.drop (i + 1)) (xs.drop (i + 1)) := by
       rw [HST.out];simp [h1]
      have HRN := Hd hrn;clear hrn;go_wp2_with fail;go_roundw
      case rel => exact ⟨i + 1,by simp,by omega,HRN,HFR.trans' HF2⟩
      case measure => simp [intOf]; omega
  · have hie : i = m := jj;subst hie;have hrt : r = true := by
     rw [HRI.out,List.drop_eq_nil_of_le (by rw [HM.out]; exact Nat.le_refl _)];rfl
    subst hrt;clear hfr hri;go_wp2_with fail;go_ret;exact ⟨rfl,HFW⟩
theorem vG (v : ByteArray) (va vb : Int) (ba bx bb by_ : Nat) (V A XA TV TA YA : Option Addr) (m vc na ca xm xc tm tvc tna tca yn yc : Nat) (w : World)
    (h1 : Blk w ba 47 #[.slice V m vc,.slice A na ca]) (h2 : Blk w bx 99 #[.slice XA xm xc]) (h3 : Blk w bb 47 #[.slice TV tm tvc,.slice TA tna tca]) (h4 : Blk w by_ 99 #[.slice YA yn yc])
    (ha : ∀ W,Fr (fun _ => False) w W → Calls prog 87 #[.agg #[.slice V m vc,.slice A na ca],.slice XA xm xc,.string v] W fun e w' => e = .returned (.int .i64 va) ∧ Fr (fun _ => False) W w')
    (hb : ∀ W,Fr (fun _ => False) w W → Calls prog 87 #[.agg #[.slice TV tm tvc,.slice TA tna tca],.slice YA yn yc,.string v] W fun e w' => e = .returned (.int .i64 vb) ∧ Fr (fun _ => False) W w') :
    Calls prog 277 #[.string v,.pointer (some ⟨ba,0,none⟩),.pointer (some ⟨bx,0,none⟩),.pointer (some ⟨bb,0,none⟩),.pointer (some ⟨by_,0,none⟩)] w fun e w' => e = .returned (.int .i64 (max va vb)) ∧ Fr (fun _ => False) w w' := by
 have HA := Hd ha;have HB := Hd hb;have HSX := Hd (show ∀ wy,Fr (fun _ => False) w wy → Fr (fun _ => False) w wy ∧ wy.cell? ⟨ba,0,none⟩ = some (.slice V m vc) ∧ wy.cell? ⟨ba,1,none⟩ = some (.slice A na ca) ∧ wy.cell? ⟨bx,0,none⟩ = some (.slice XA xm xc) ∧ wy.cell? ⟨bb,0,none⟩ = some (.slice TV tm tvc) ∧ wy.cell? ⟨bb,1,none⟩ = some (.slice TA tna tca) ∧ wy.cell? ⟨by_,0,none⟩ = some (.slice YA yn yc) from fun wy hf => ⟨hf,(h1.fr hf id).cell 0,(h1.fr hf id).cell 1,(h2.fr hf id).cell 0,(h3.fr hf id).cell 0,(h3.fr hf id).cell 1,(h4.fr hf id).cell 0⟩);clear h1 h2 h3 h4 ha hb;go_enter func277,ntmps277;go_wp2_with fail;refine wp_region_noPanic ?_;refine wp_region_held_drew (S := (fun wy => Fr (fun _ => False) w wy ∧ wy.cell? ⟨ba,0,none⟩ = some (.slice V m vc) ∧ wy.cell? ⟨ba,1,none⟩ = some (.slice A na ca) ∧ wy.cell? ⟨bx,0,none⟩ = some (.slice XA xm xc) ∧ wy.cell? ⟨bb,0,none⟩ = some (.slice TV tm tvc) ∧ wy.cell? ⟨bb,1,none⟩ = some (.slice TA tna tca) ∧ wy.cell? ⟨by_,0,none⟩ = some (.slice YA yn yc))) kr ?_ (fun hHeld => ?_)
 · try dsimp only
   exact HSX _ (Fr.refl (fun _ => False) w).drew
 refine oT 0 ?_;refine oT 1 ?_;refine oT 2 ?_;refine oT 4 ?_;refine oT 5 ?_;refine oT 6 ?_;refine oR [3] ?_;refine oC (fun K hK => ?_) ?_
 · go_simp;go_at_call 87;refine (HA _ (Fr.refl (fun _ => False) w).drew).mono ?_;rintro e_a w_a ⟨rfl,hf_a⟩;have F_a : Fr (fun _ => False) w w_a := Fr.trans' (S := fun _ => False) (Fr.refl (fun _ => False) w).drew hf_a;refine oK hK ?_ fun hHeld => ?_
   · try dsimp only
     exact HSX _ F_a
   clear hK K;refine oR [7] ?_;refine oC (fun K hK => ?_) ?_
   · go_simp;go_at_call 87;refine (HB _ F_a).mono ?_;rintro e_b w_b ⟨rfl,hf_b⟩;have F_b : Fr (fun _ => False) w w_b := Fr.trans' (S := fun _ => False) F_a hf_b;refine oK hK ?_ fun hHeld => ?_
     · try dsimp only
       exact HSX _ F_b
     clear hK K;refine oR [8] ?_;refine oC (fun K hK => ?_) ?_
     · go_simp;refine oK hK ?_ fun hHeld => ?_
       · try dsimp only
         exact HSX _ F_b
       clear hK K;refine oR [9] ?_;refine oC (fun K hK => ?_) ?_
       · go_simp;refine oK hK ?_ fun hHeld => ?_
         · try dsimp only
           exact HSX _ F_b
         clear hK K;refine oD (NoPanic.normal ?_);go_wp2_with fail;go_ret;exact ⟨rfl,F_b⟩
       exact .nil
     exact .nil
   exact .nil
 exact .nil
def AJ (F : Nat) (C : Array Value) (w : World) (V : Option Addr) (m vc mC : Nat) (ssC : List ByteArray) (vals : List Value) (rows : List (List Int)) (one : List Int → List (List Int)) : Prop :=
 (∀ W,Fr (fun _ => False) w W → Calls prog F (#[.agg #[.slice V m vc,.slice none 0 0]] ++ C) W (aQ W mC ssC [])) ∧
 ∀ W g i,i < rows.length → Fr (fun _ => False) w W → Blk W g 99 #[vals.getD i undef] → Calls prog F (#[.agg #[.slice V m vc,.slice (some ⟨g,0,none⟩) 1 1]] ++ C) W (aQ W mC ssC (one (rows.getD i [])))
structure xM (w wr : World) (ob m vc mC oc B : Nat) (V OV : Option Addr) (vr ovr : Value) (ovals : List Value) (ssC : List ByteArray) (orows : List (List Int)) : Prop where
 box : Blk wr w.heap.size 47 #[.slice V m vc,vr]
 res : Blk wr (w.heap.size + 1) 47 #[.slice none 0 0,.slice none 0 0]
 out : Blk wr ob 47 #[.slice OV mC oc,ovr]
 vars : wr.ownsRow B 9 1 (.slice OV mC oc) mC (ssC.map .string)
 rows : ak wr B ovr ovals orows
 fr : Fr (fun _ => False) w wr
theorem ak.append {B2 : Nat} {vn : Value} {vals2 : List Value} {rows2 : List (List Int)} (h : ak w B vr vals rows) (hn : ak w B2 vn vals2 rows2) (hB : B ≤ B2)
    (hown : w6.ownsRow B 99 1 v6 (rows.length + rows2.length) (vals ++ vals2)) (hg : w.grownBy w6 vr.ownBlock) : ak w6 B v6 (vals ++ vals2) (rows ++ rows2) := by
 have F : Fr (fun k => vr.ownBlock = some k) w w6 := Fr.of_grown hg;refine ⟨by rw [List.length_append]; exact hown,fun i hi => ?_⟩;have hl := h.len;rw [List.length_append] at hi;rcases Nat.lt_or_ge i rows.length with hlt | hge
 · have e1 : (vals ++ vals2).getD i undef = vals.getD i undef := by rw [List.getD_eq_getElem?_getD,List.getElem?_append_left jj,List.getD_eq_getElem?_getD]
   have e2 : (rows ++ rows2).getD i [] = rows.getD i [] := by rw [List.getD_eq_getElem?_getD,List.getElem?_append_left hlt,List.getD_eq_getElem?_getD]
   rw [e1,e2];exact aa (h.each i hlt) F (fun k hk e => aw (h.each i hlt) h.own de hk e)
 · have e1 : (vals ++ vals2).getD i undef = vals2.getD (i - rows.length) undef := by rw [List.getD_eq_getElem?_getD,List.getElem?_append_right jj,List.getD_eq_getElem?_getD,hl]
   have e2 : (rows ++ rows2).getD i [] = rows2.getD (i - rows.length) [] := by rw [List.getD_eq_getElem?_getD,List.getElem?_append_right hge,List.getD_eq_getElem?_getD]
   rw [e1,e2];exact ai (aa (hn.each _ jj) F (fun k hk e => aw (hn.each _ jj) h.own de hk e)) hB
theorem j9 (one : List Int → List (List Int)) (rows : List (List Int)) (k : Nat) (hk : k < rows.length) : (rows.take (k + 1)).flatMap one = (rows.take k).flatMap one ++ one (rows.getD k []) := by
 rw [List.take_add_one,List.getD_eq_getElem?_getD,List.getElem?_eq_getElem hk,List.flatMap_append];simp
theorem jE (one : List Int → List (List Int)) (rows : List (List Int)) : ∀ k,((rows.take k).flatMap one).length ≤ (rows.flatMap one).length := fun k => by
 conv => rhs; rw [← List.take_append_drop k rows]
 rw [List.flatMap_append,List.length_append];omega
theorem EW (x y : Value) (w : World) : (Instr.field 47 (.agg #[x,y]) 1).run prog w = .ok y w := kr
theorem ak.one (h : ak w B vr vals rows) : ∀ u ∈ vals,u.oneCell' = true := by
 intro u hu;obtain ⟨i,hi,rfl⟩ := List.getElem_of_mem hu;have he := h.each i (by rw [← h.len]; exact hi);rw [List.getD_eq_getElem?_getD,List.getElem?_eq_getElem hi] at he;obtain ⟨A,c,e⟩ := ad he;have e : vals[i] = .slice A (rows.getD i []).length c := e;rw [e];rfl
theorem bu (t ty e : TypeId) (i : TypeInfo) (z : Value) (size bytes : Nat) (ht : prog.underlying t = some (.slice e)) (hi : prog.info? e = some i) (hz : i.zero = some z) (hsize : i.size = size) (hby : i.bytes = bytes) (hzs : z.cells.size = size) (hsz : 0 < size)
    (base n m B2 : Nat) (v u : Value) (xs news : List Value) (hown : w.ownsRow base e size v n xs) (hx : w.ownsRow B2 e size u m news) (h1 : ∀ u ∈ news,u.oneCell' = true) (h63 : n + m ≤ maxLen) (hbytes : (n + m) * bytes ≤ 140737488355328) (hbase : base ≤ w.heap.size) :
    ∃ v' w',(Builtin.append_ #[t,t] ty #[v,u]).run prog w = .ok v' w' ∧ w'.ownsRow base e size v' (n + m) (xs ++ news) ∧ w.grownBy w' v.ownBlock := by
 rcases hx.2 with ⟨rfl,rfl⟩ | ⟨g,cap,cur,rfl,_⟩
 · have hn : news = [] := by
    have := hx.1;exact List.eq_nil_of_length_eq_zero jj
   subst hn;exact ⟨v,w,run_append_owned_none (P := prog) (w := w) base t ty e i size ht hi v n xs hown,by rw [List.append_nil]; exact hown,⟨rfl,rfl,rfl,Nat.le_refl _,fun _ _ _ => rfl⟩⟩
 · obtain ⟨v',w',h1,h2,h3,_⟩ := run_append_own (P := prog) w base t ty e i z size bytes ht hi hz hsize hby hzs hsz v n xs hown ⟨g,0,none⟩ m cap news hx.1 (hx.cells rfl) h1 h63 hbytes hbase;exact ⟨v',w',h1,h2,h3⟩
theorem fV {ops : Array Oper} {o : Oper} {a : Act} {K : Act → World → Prop} {Q : Exit → Act → World → Prop} {E : Prop} (hgd : o.guard = none) (s x : Operand) (t : TypeId) (ho : o.op = .call { callee := .builtin .append,args := #[s,x],argTypes := #[t,t] })
    (e : TypeId) (i : TypeInfo) (z : Value) (size bytes : Nat) (ht : prog.underlying t = some (.slice e)) (hi : prog.info? e = some i) (hz : i.zero = some z) (hsize : i.size = size) (hby : i.bytes = bytes) (hzs : z.cells.size = size) (hsz : 0 < size)
    (base n m B2 : Nat) (v u : Value) (xs news : List Value) (hs : a.eval s = v) (hxe : a.eval x = u) (hown : w.ownsRow base e size v n xs) (hx : w.ownsRow B2 e size u m news) (h1 : ∀ u ∈ news,u.oneCell' = true) (h63 : n + m ≤ maxLen) (hbytes : (n + m) * bytes ≤ 140737488355328) (hbase : base ≤ w.heap.size)
    (h : ∀ v' w',w'.ownsRow base e size v' (n + m) (xs ++ news) → w.grownBy w' v.ownBlock → K (a.put o.dst v') w') :
    if Region.wanted o (yielded ops a.tmps) = true then Oper.wp prog o a w K Q else E := by
 have hw : Region.wanted o (yielded ops a.tmps) = true := by simp [Region.wanted,hgd]
 rw [if_pos hw];obtain ⟨v',w',hrun,h2,h3⟩ := bu t o.type e i z size bytes ht hi hz hsize hby hzs hsz base n m B2 v u xs news hown hx h1 h63 hbytes hbase;unfold Oper.wp;simp [execOp,ho,resolve,invoke,builtin,hs,hxe,hrun,Result.andThen];exact h _ _ h2 h3
theorem xM.push {w3 : World} {vc B3 n3 : Nat} {V : Option Addr} {v3 : Value} {vals3 : List Value} {ssC : List ByteArray} {R0 ork : List (List Int)} (h : xM w wr ob m vc mC oc B V OV vr ovr ovals ssC R0) (F3 : Fr (fun _ => False) wr w3) (hr3 : ak w3 B3 v3 vals3 ork) (hB : B ≤ B3) (hB0 : w.heap.size ≤ B) (hob : w.heap.size + 1 < ob) (hn3 : n3 = R0.length + ork.length)
    (hown : w6.ownsRow B 99 1 v6 n3 (ovals ++ vals3)) (hgr : w3.grownBy w6 ovr.ownBlock) :
    xM w (w6.setCell ⟨ob,1,none⟩ v6) ob m vc mC oc B V OV vr v6 (ovals ++ vals3) ssC (R0 ++ ork) := by
 subst hn3;have hr := h.rows.frF F3;have F6 : Fr (fun j => ovr.ownBlock = some j) w3 w6 := Fr.of_grown hgr;have hra := hr.append hr3 hB hown hgr;have ho3 := h.out.fr F3 id;have ho6 := ho3.fr F6 (fun e => ac hr.own ho3 de e);have FS : Fr (fun j => j = ob) w6 (w6.setCell ⟨ob,1,none⟩ v6) := (Fr.refl (fun j => j = ob) w6).setCell ⟨ob,1,none⟩ (fun _ => rfl) _;have hb3 := h.box.fr F3 id;have hc3 := h.res.fr F3 id;have hv3 := aa h.vars F3 ii;have hv6 := aa hv3 F6 (fun j hj e => aw hv3 hr.own de hj e);exact ⟨(hb3.fr F6 (fun e => ac hr.own hb3 de e)).fr FS (by omega),(hc3.fr F6 (fun e => ac hr.own hc3 de e)).fr FS (by omega),ho6.set_ 1 _,
  aa hv6 FS (fun j hj e => ac hv6 ho6 de (by rw [hj,e])),hra.frB ho6 de de FS,
  ((h.fr.trans' F3).trans F6 (fun j hj e => by have := bs hr.own e; omega)).trans FS (fun j hj e => by omega)⟩
theorem vH (F : Nat) (C : Array Value) (one : List Int → List (List Int)) (eb m vc mC Bv Br : Nat) (d s mp : Value) (V : Option Addr) (vr : Value) (vals : List Value) (ss ssC : List ByteArray) (rows : List (List Int)) (w : World) (hm : m ≤ 4096) (hmC : mC ≤ 4096)
    (hE : Blk w eb 95 #[d,s,mp,.int .i64 0]) (hv : w.ownsRow Bv 9 1 (.slice V m vc) m (ss.map .string)) (hr : ak w Br vr vals rows) (hn : rows.length ≤ 4096) (hn2 : (rows.flatMap one).length ≤ 4096)
    (hen : ∀ args w,(callFunc F args).run prog w = .ok (.enter F args) w) (hone : AJ F C w V m vc mC ssC vals rows one) :
    Calls prog 166 #[.pointer (some ⟨eb,0,none⟩),.agg #[.slice V m vc,vr],.func (.func F) #[] C] w (aQ w mC ssC (rows.flatMap one)) := by
 obtain ⟨A0,c0,hvt⟩ := ad hr.own;subst hvt;obtain ⟨i48,hi48,hz480,hz481,hz482⟩ := info_parts jY;have hf0 := Fr.a2 w (.cells #[.slice V m vc,.slice A0 rows.length c0] 47) (.cells #[.slice none 0 0,.slice none 0 0] 47);have HA := Hd ((Blk.new w 47 #[.slice V m vc,.slice A0 rows.length c0]).alloc (.cells #[.slice none 0 0,.slice none 0 0] 47));have HB := Hd (show Blk ((w.alloc (.cells #[.slice V m vc,.slice A0 rows.length c0] 47)).alloc (.cells #[.slice none 0 0,.slice none 0 0] 47)) (w.heap.size + 1) 47 #[.slice none 0 0,.slice none 0 0] by
  have h := Blk.new (w.alloc (.cells #[.slice V m vc,.slice A0 rows.length c0] 47)) 47 #[.slice none 0 0,.slice none 0 0];simpa using h)
 have HF0 := Hd hf0;have H1 := Hd hone.1;have H2 := Hd hone.2;have HE := Hd hE;have HR := Hd hr;have hsz0 := k7 w (.cells #[.slice V m vc,.slice A0 rows.length c0] 47) (.cells #[.slice none 0 0,.slice none 0 0] 47);have a0 := HA.out.c0;clear hE hv hr hone hf0;go_enter func166,ntmps166;go_wp2_with fail;generalize ((w.alloc (.cells #[.slice V m vc,.slice A0 rows.length c0] 47)).alloc (.cells #[.slice none 0 0,.slice none 0 0] 47)) = w0 at *;refine (H1.out w0 HF0.out).mono ?_;rintro e w1 ⟨tv,rfl,⟨OV,oc,ovr,ovals,rfl,hvars,hrows⟩,hf1⟩;obtain ⟨OA,oac,hor⟩ := ad hrows.own;subst hor;have hsz1 := hf1.size;have HST := Hd (show xM w (w1.alloc (.cells #[.slice OV mC oc,.slice OA ([] : List (List Int)).length oac] 47)) w1.heap.size m vc mC oc w0.heap.size V OV (.slice A0 rows.length c0) (.slice OA ([] : List (List Int)).length oac) ovals ssC [] from
  ⟨(HA.out.fr hf1 id).alloc _,(HB.out.fr hf1 id).alloc _,Blk.new _ _ _,hvars.alloc _,hrows.frF ((Fr.refl _ _).alloc _),(HF0.out.trans' hf1).alloc _⟩)
 have a1 := HST.out.box.c1;have a1' := (HA.out.fr hf1 id).c1;have hlt1 : w.heap.size < w1.heap.size := jj;clear hvars hrows hf1 a0;go_wp2_with fail;generalize (w1.alloc (.cells #[.slice OV mC oc,.slice OA ([] : List (List Int)).length oac] 47)) = w2 at *
 go_loopw [9,18] (fun _ iv wr => ∃ (k : Nat) (ovr : Value) (ovals : List Value),iv = .int .i64 (k : Int) ∧ k ≤ rows.length ∧ xM w wr w1.heap.size m vc mC oc w0.heap.size V OV (.slice A0 rows.length c0) ovr ovals ssC ((rows.take k).flatMap one)) (fun _ iv _ => rows.length - (intOf iv).toNat)
 case atStart => exact ⟨0,_,_,rfl,Nat.zero_le _,HST.out⟩
 case round =>
  obtain ⟨k,ovr,ovals,rfl,hk,hi⟩ := hrel;obtain ⟨OA,oac,hor⟩ := ad hi.rows.own;subst hor;have HI := Hd hi;have hble := jE one rows k;by_cases hlt : k < rows.length
  · have hlt' : (k : Int) < (rows.length : Int) := jj;have hrr := HR.out.frF hi.fr;obtain ⟨ga,rfl,_,_,_⟩ := ar hrr.own jj;have hck : wr.cell? ⟨ga,k,none⟩ = some (vals.getD k undef) := by
     rw [World.ownsRow.cellAt hrr.own k jj,List.getD_eq_getElem?_getD,List.getElem?_eq_getElem (by have := hrr.len; omega)]; rfl
    have hcode := (HE.out.fr hi.fr id).c3;have b0 := hi.box.c0;have hFT := j9 one rows k hlt;have HFT := Hd hFT;have hble2 := jE one rows (k + 1);rw [hFT,List.length_append] at hble2;generalize hR0 : (rows.take k).flatMap one = R0 at *;obtain ⟨VK,vkc,hvk⟩ := ad (hrr.each k hlt);have HVK := Hd hvk;rw [hvk] at hck;generalize (rows.getD k []).length = vkn at *;obtain ⟨q,hq⟩ : ∃ q,q = R0.length := ⟨_,rfl⟩;rw [← hq] at HI hi;have HQ := Hd hq;clear hrr hq hvk;go_wp2_with fail;have hlo := hi.out.lt;have hlb := hi.box.lt;have hrN := ac hi.rows.own hi.out de;have o1 := hi.out.c1;clear hi hFT;have H2K := Hd (fun W g => H2.out W g k hlt);unfold aQ at H2K;have hfld : ∀ (x y : Value) w,(Instr.field 47 (.agg #[x,y]) 1).run prog w = .ok y w := fun x y w => EW x y w;generalize rows.getD k [] = rk at *;generalize one rk = ork at *;have hqb : q + ork.length ≤ 4096 := by rw [HQ.out]; omega
    go_region_law (first
     | (go_simp; refine (H2K.out _ wr.heap.size (by repeat' (first | exact HI.out.fr | refine Fr.drew ?_ | refine Fr.alloc ?_ _)) (by rw [HVK.out]; exact Blk.new wr 99 _)).mono ?_; rintro e w3 ⟨tv3,rfl,⟨V3,c3,vr3,vals3,rfl,_,hrow3⟩,hf3⟩; have F3 : Fr (fun _ => False) wr w3 := Fr.trans' (by repeat' (first | exact Fr.refl _ _ | refine Fr.drew ?_ | refine Fr.alloc ?_ _)) hf3; have b3 := (HI.out.out.fr F3 id).cell 1; have b3f := (HI.out.out.fr F3 id).frozen 1; have hlo3 := (HI.out.out.fr F3 id).lt; have hsz3 := F3.size; have b03 := (HI.out.box.fr F3 id).cell 0; obtain ⟨A3,c33,hv3⟩ := ad hrow3.own; subst hv3)
     | (refine fV (by rfl) _ _ 45 (by rfl) 99 i48 _ 1 24 underlying45 hi48 hz480 hz481 hz482 rfl de w0.heap.size q ork.length _ (.slice OA q oac) _ ovals vals3 (by rfl) (by rfl) (by have h := (HI.out.rows.frF F3).own; rw [← HQ.out] at h; exact h) hrow3.own hrow3.one (by unfold maxLen; omega) jj jj ?_; intro v6 w6 hown6 hgr6; obtain ⟨A6,c6,hv6⟩ := ad hown6; subst hv6; have hbl6 : Blk w6 w1.heap.size 47 _ := Blk.fr (HI.out.out.fr F3 id) (Fr.of_grown hgr6) hrN; have d1 := hbl6.cell 1; have e1 := hbl6.frozen 1; have hlo6 := hbl6.lt))
    all_goals
     have HN := Hd (HI.out.push F3 hrow3 (by simp; omega) jj jj (by rw [← HQ.out]) hown6 hgr6);have n20 : ¬ (20000 : Int) < (q : Int) + (ork.length : Int) := jj;clear hrow3 hf3 F3 b3 b3f hlo3 hsz3 b03 hown6 hgr6 hbl6 e1 d1 hck b0 o1;rw [← HFT.out] at HN;have x1 := HN.out.out.c1;generalize (w6.setCell ⟨w1.heap.size,1,none⟩ (.slice A6 (q + ork.length) c6)) = w7 at *;go_wp2_with fail;go_roundw
     case rel => exact ⟨k + 1,_,_,by go_num,by omega,HN.out⟩
     case measure => simp [intOf]; omega
  · have hlt' : ¬ (k : Int) < (rows.length : Int) := jj;have hkn : k = rows.length := jj;subst hkn;rw [List.take_length] at hi HI;generalize rows.flatMap one = R0 at *;have t0 := hi.out.c0;have hos := hi.out;have hbs := hi.res;have f0 := hbs.frozen 0;have cc0 := hbs.c0;have hlb := hbs.lt;have hb2 := hbs.set_ 0 (.slice OV mC oc);have cc1 := hb2.c1;have f12 : (wr.setCell ⟨w.heap.size + 1,0,none⟩ (.slice OV mC oc)).frozen? ⟨w.heap.size + 1,1,none⟩ = false := hb2.frozen 1;have hb3 : Blk ((wr.setCell ⟨w.heap.size + 1,0,none⟩ (.slice OV mC oc)).setCell ⟨w.heap.size + 1,1,none⟩ (.slice OA R0.length oac)) (w.heap.size + 1) 47 #[.slice OV mC oc,.slice OA R0.length oac] := hb2.set_ 1 (.slice OA R0.length oac);have FS : Fr (fun j => j = w.heap.size + 1) wr ((wr.setCell ⟨w.heap.size + 1,0,none⟩ (.slice OV mC oc)).setCell ⟨w.heap.size + 1,1,none⟩ (.slice OA R0.length oac)) := ((Fr.refl (fun j => j = w.heap.size + 1) wr).setCell ⟨w.heap.size + 1,0,none⟩ (fun _ => rfl) _).setCell ⟨w.heap.size + 1,1,none⟩ (fun _ => rfl) _;have t1 := hos.c1;have HB3 := Hd hb3;have HRA3 := Hd ((hi.rows.frB hbs de de FS).base (show w.heap.size ≤ w0.heap.size by omega));have HVR3 := Hd (ai (aa hi.vars FS (fun j hj e => ac hi.vars hbs de (by rw [hj,e]))) (show w.heap.size ≤ w0.heap.size by omega));have HF3 := Hd (hi.fr.trans FS (fun j _ h => by omega));clear hi hos hbs hb2 hb3 FS;go_wp2_with fail;exact bodyPost_ret (v := .agg #[.slice OV mC oc,.slice OA R0.length oac]) (results_cell_row rfl _ _ (w.heap.size + 1) 47 _ (0,0) _ rfl HB3.out underlying47 rfl kr) rfl ⟨_,rfl,⟨OV,oc,.slice OA R0.length oac,ovals,rfl,HVR3.out,HRA3.out⟩,HF3.out⟩
theorem Cv : (prog.info? 9).map (fun i => (i.zero,i.size,i.bytes)) = some (some (.string ⟨#[]⟩),1,16) := kr
def xN (w : World) (e : Ending) (w' : World) : Prop := ∃ g c,e = .returned (.slice (some ⟨g,0,none⟩) 0 c) ∧ w'.ownsRow w.heap.size 9 1 (.slice (some ⟨g,0,none⟩) 0 c) 0 [] ∧ Fr (fun _ => False) w w'
theorem AK (n : Nat) (hn0 : 0 < n) (hn : n ≤ 4096) (w : World) : Calls prog 240 #[.slice none 0 0,.int .i64 n] w (xN w) := by
 obtain ⟨i9,hi9,hz90,hz91,hz92⟩ := info_parts Cv;have hn1 : ¬ (n : Int) < 0 := jj;have hrun := fun W ty => Lib.run_append_nil_zeros (P := prog) W 31 3 ty 9 i9 (.string ⟨#[]⟩) .i64 .i64 underlying31 underlying3 hi9 hz90 n hn0 (by rw [hz91]; decide) jj (by rw [hz92]; omega);have hgc : n ≤ grownCap w n 0 9 := grownCap_ge w n 0 9;have hgm : grownCap w n 0 9 ≤ maxLen := grownCap_le_maxLen w n 0 9 (by unfold maxLen; omega);have hown := World.ownsRow_made (base := w.heap.size) (e := 9) (size := 1) w.drew (Builtin.zeroCells (Value.string ⟨#[]⟩).cells n ++ Builtin.zeroCells (Value.string ⟨#[]⟩).cells (grownCap w n 0 9 - n)) (grownCap w n 0 9) (Nat.le_refl _) hgm (by simp [Builtin.zeroCells,Value.cells]; omega);go_enter func240,ntmps240;go_wp2_with (at_builtin; refine Lib.wpList_append_run _ rfl _ _ _ _ rfl _ _ rfl rfl _ _ (hrun _ _) ?_);go_ret;exact ⟨w.heap.size,_,rfl,hown,((Fr.refl _ w).alloc _).drew⟩
theorem nP (gb ma ca mb cb Ba Bb : Nat) (VA VB : Option Addr) (sa sb : List ByteArray) (w : World) (hb : Blk w gb 31 #[.slice VA ma ca,.slice VB mb cb]) (hA : w.ownsRow Ba 9 1 (.slice VA ma ca) ma (sa.map .string)) (hB : w.ownsRow Bb 9 1 (.slice VB mb cb) mb (sb.map .string)) (h0 : 0 < ma + mb) (hn : ma + mb ≤ 100) :
    Calls prog 180 #[.slice (some ⟨gb,0,none⟩) 2 2] w (eK w (ma + mb) (sa ++ sb)) := by
 have c0 := hb.c0;have c1 := hb.c1;have HG := Hd (fun W => (by have h := AK (ma + mb) h0 jj W; rw [Int.natCast_add] at h; exact h : Calls prog 240 #[.slice none 0 0,.int .i64 ((ma : Int) + (mb : Int))] W (xN W)));unfold xN at HG;have HB := Hd hb;have HA := Hd hA;have HBB := Hd hB;obtain ⟨i9,hi9,hz90,hz91,hz92⟩ := info_parts Cv;clear hb hA hB;go_enter func180,ntmps180;go_wp2_with fail
 go_loopw [3,5,11] (fun sv _ iv wr => (iv = .int .i64 0 ∧ sv = .int .i64 0 ∧ w = wr) ∨ (iv = .int .i64 1 ∧ sv = .int .i64 (ma : Int) ∧ w = wr) ∨ (iv = .int .i64 2 ∧ sv = .int .i64 ((ma : Int) + (mb : Int)) ∧ w = wr)) (fun _ _ iv _ => 2 - (intOf iv).toNat)
 case atStart => exact .inl ⟨rfl,rfl,rfl⟩
 case round =>
  rcases hrel with ⟨rfl,rfl,rfl⟩ | ⟨rfl,rfl,rfl⟩ | ⟨rfl,rfl,rfl⟩
  · have n1 : ¬ (ma : Int) < 0 := jj;go_wp2_with fail;go_roundw
    case rel => exact .inr (.inl (by simp))
    case measure => simp [intOf]
  · have n1 : ¬ (ma : Int) + (mb : Int) < 0 := jj;go_wp2_with fail;go_roundw
    case rel => exact .inr (.inr (by simp))
    case measure => simp [intOf]
  · go_wp2_with fail;refine (HG.out w).mono ?_;rintro e w1 ⟨g,gc,rfl,hown,hf1⟩;have hb1 := HB.fr hf1 id;have HB1 := Hd hb1;have HO := Hd hown;have HF1 := Hd hf1;have HA1 := Hd (aa HA.out hf1 ii);clear hb1 hown hf1 c0 c1;go_wp2_with fail
    go_loopw [6,8,27] (fun nv _ iv wr => (iv = .int .i64 0 ∧ nv = .slice (some ⟨g,0,none⟩) 0 gc ∧ w1 = wr) ∨ (iv = .int .i64 1 ∧ ∃ V c,nv = .slice V ma c ∧ wr.ownsRow w.heap.size 9 1 (.slice V ma c) ma (sa.map .string) ∧ Fr (fun _ => False) w wr) ∨ (iv = .int .i64 2 ∧ ∃ V c,nv = .slice V (ma + mb) c ∧ wr.ownsRow w.heap.size 9 1 (.slice V (ma + mb) c) (ma + mb) ((sa ++ sb).map .string) ∧ Fr (fun _ => False) w wr)) (fun _ _ iv _ => 2 - (intOf iv).toNat)
    case atStart => exact .inl ⟨rfl,rfl,rfl⟩
    case round =>
     rcases hrel with ⟨rfl,rfl,rfl⟩ | ⟨rfl,V,c,rfl,hrow,hfr⟩ | ⟨rfl,V,c,rfl,hrow,hfr⟩
     · have d0 := HB1.c0;obtain ⟨v2,w2,hrun,hown2,hgr2⟩ := bu (w := w1) 31 31 9 i9 (.string ⟨#[]⟩) 1 16 underlying31 hi9 hz90 hz91 hz92 rfl de w.heap.size 0 ma Ba (.slice (some ⟨g,0,none⟩) 0 gc) (.slice VA ma ca) [] (sa.map .string) HO.out HA1 (by intro u hu; obtain ⟨x,_,rfl⟩ := List.mem_map.1 hu; rfl) (by unfold maxLen; omega) jj HF1.size;rw [Nat.zero_add,List.nil_append] at hown2;obtain ⟨V2,c2,hv2⟩ := ad hown2;subst hv2;have HN := Hd (show ∃ V c,(Value.slice V2 ma c2) = .slice V ma c ∧ w2.ownsRow w.heap.size 9 1 (.slice V ma c) ma (sa.map .string) ∧ Fr (fun _ => False) w w2 from ⟨V2,c2,rfl,hown2,HF1.grown hgr2 (fun k hk e => by have := bs HO.out e; omega)⟩);clear hown2 hgr2;go_wp2_with (at_builtin; refine Lib.wpList_append_run _ rfl _ _ _ _ rfl _ _ rfl rfl _ _ hrun ?_);go_roundw
       case rel => exact .inr (.inl ⟨by simp,HN⟩)
       case measure => simp [intOf]
     · have d1 := (HB.fr hfr id).c1;obtain ⟨v2,w2,hrun,hown2,hgr2⟩ := bu (w := wr) 31 31 9 i9 (.string ⟨#[]⟩) 1 16 underlying31 hi9 hz90 hz91 hz92 rfl de w.heap.size ma mb Bb (.slice V ma c) (.slice VB mb cb) (sa.map .string) (sb.map .string) hrow (aa HBB.out hfr ii) (by intro u hu; obtain ⟨x,_,rfl⟩ := List.mem_map.1 hu; rfl) (by unfold maxLen; omega) jj hfr.size;rw [← List.map_append] at hown2;obtain ⟨V2,c2,hv2⟩ := ad hown2;subst hv2;have HN := Hd (show ∃ V c,(Value.slice V2 (ma + mb) c2) = .slice V (ma + mb) c ∧ w2.ownsRow w.heap.size 9 1 (.slice V (ma + mb) c) (ma + mb) ((sa ++ sb).map .string) ∧ Fr (fun _ => False) w w2 from ⟨V2,c2,rfl,hown2,hfr.grown hgr2 (fun k hk e => by have := bs hrow e; omega)⟩);clear hown2 hgr2 hrow hfr;go_wp2_with (at_builtin; refine Lib.wpList_append_run _ rfl _ _ _ _ rfl _ _ rfl rfl _ _ hrun ?_);go_roundw
       case rel => exact .inr (.inr ⟨by simp,HN⟩)
       case measure => simp [intOf]
     · have HFI := Hd (show eK w (ma + mb) (sa ++ sb) (.returned (.slice V (ma + mb) c)) wr from ⟨V,c,rfl,hrow,hfr⟩);clear hrow hfr;go_wp2_with fail;go_ret;exact HFI
def dY (ss : List ByteArray) (f : ByteArray → Nat × Bool) (vs : List ByteArray) : Prop := ∀ v ∈ vs,gR ss v (f v).1 (f v).2 ∧ ((f v).2 = true → (f v).1 < ss.length)
def jF (f : ByteArray → Nat × Bool) (xs : List Int) (v : ByteArray) : Int := mO (f v).1 (f v).2 xs
def fH (fA fB : ByteArray → Nat × Bool) (sc : List ByteArray) (x y : List Int) : List Int := sc.map fun v => max (jF fA x v) (jF fB y v)
theorem sF (fA fB : ByteArray → Nat × Bool) (sc : List ByteArray) (x y : List Int) : (fH fA fB sc x y).length = sc.length := by simp [fH]
theorem AL {ss : List ByteArray} {f : ByteArray → Nat × Bool} {vs : List ByteArray} (h : dY ss f vs) {v : ByteArray} (hv : v ∈ vs) {xs : List Int} (hl : xs.length = ss.length) (hx : ∀ k,k < xs.length → -1 ≤ xs.getD k 0) : -1 ≤ jF f xs v :=
 oP _ _ _ hx (fun e => by rw [hl]; exact (h v hv).2 e)
theorem lV {l : List ByteArray} {k : Nat} (h : k < l.length) : l.getD k ByteArray.empty ∈ l := by
 rw [List.getD_eq_getElem?_getD,List.getElem?_eq_getElem h];exact List.getElem_mem h
theorem lW (fA fB : ByteArray → Nat × Bool) (sc : List ByteArray) (x y : List Int) {k : Nat} (h : k < sc.length) : (fH fA fB sc x y).getD k 0 = max (jF fA x (sc.getD k ByteArray.empty)) (jF fB y (sc.getD k ByteArray.empty)) := by
 unfold fH;rw [List.getD_eq_getElem?_getD,List.getElem?_map,List.getD_eq_getElem?_getD,List.getElem?_eq_getElem h];rfl
theorem vI (fA fB : ByteArray → Nat × Bool) (tb mC vcC B ma ca mb cb na nca nb ncb xc yc Ba Bb Bx By : Nat) (VC VA VB AA AB XA YA : Option Addr) (vr : Value) (vals : List Value) (rows : List (List Int)) (sa sb sc : List ByteArray) (xs ys : List Int) (w : World) (hla : sa.length = ma) (hlb : sb.length = mb) (hlc : sc.length = mC) (hm : mC ≤ 4096 ∧ ma ≤ 4096 ∧ mb ≤ 4096) (hxl : xs.length = ma) (hyl : ys.length = mb)
    (hfA : dY sa fA sc) (hfB : dY sb fB sc) (hx1 : ∀ k,k < xs.length → -1 ≤ xs.getD k 0) (hy1 : ∀ k,k < ys.length → -1 ≤ ys.getD k 0) (hB : B ≤ w.heap.size) (hrows : rows.length ≤ 4096)
    (hA : w.ownsRow Ba 9 1 (.slice VA ma ca) ma (sa.map .string)) (hBr : w.ownsRow Bb 9 1 (.slice VB mb cb) mb (sb.map .string)) (hX : ap w Bx (.slice XA ma xc) xs) (hY : ap w By (.slice YA mb yc) ys)
    (ht : Blk w tb 47 #[.slice VC mC vcC,vr]) (hv : w.ownsRow B 9 1 (.slice VC mC vcC) mC (sc.map .string)) (hr : ak w B vr vals rows) :
    Calls prog 229 #[.pointer (some ⟨tb,0,none⟩),.agg #[.slice VA ma ca,.slice AA na nca],.agg #[.slice VB mb cb,.slice AB nb ncb],.slice XA ma xc,.slice YA mb yc] w (kI w B tb mC vcC VC vr vals rows (fH fA fB sc xs ys)) := by
 obtain ⟨w1,hw1⟩ : ∃ w1,w1 = ((((w.alloc (.cells #[.slice VA ma ca,.slice AA na nca] 47)).alloc (.cells #[.slice VB mb cb,.slice AB nb ncb] 47)).alloc (.cells #[.slice XA ma xc] 99)).alloc (.cells #[.slice YA mb yc] 99)) := ⟨_,rfl⟩;have hf : Fr (fun _ => False) w w1 := by rw [hw1]; exact ((((Fr.refl _ w).alloc _).alloc _).alloc _).alloc _
 have e1 := al1 w (.cells #[.slice VA ma ca,.slice AA na nca] 47);have e2 := k7 w (.cells #[.slice VA ma ca,.slice AA na nca] 47) (.cells #[.slice VB mb cb,.slice AB nb ncb] 47);have e3 := CH w (.cells #[.slice VA ma ca,.slice AA na nca] 47) (.cells #[.slice VB mb cb,.slice AB nb ncb] 47) (.cells #[.slice XA ma xc] 99);have b1 : Blk w1 w.heap.size 47 #[.slice VA ma ca,.slice AA na nca] := by rw [hw1]; exact (((Blk.new w 47 _).alloc _).alloc _).alloc _
 have b2 : Blk w1 (w.heap.size + 1) 47 #[.slice VB mb cb,.slice AB nb ncb] := by rw [hw1,← e1]; exact ((Blk.new _ 47 _).alloc _).alloc _
 have b3 : Blk w1 (w.heap.size + 2) 99 #[.slice XA ma xc] := by rw [hw1,← e2]; exact (Blk.new _ 99 _).alloc _
 have b4 : Blk w1 (w.heap.size + 3) 99 #[.slice YA mb yc] := by rw [hw1,← e3]; exact Blk.new _ 99 _
 have hz1 : w1.heap.size = w.heap.size + 4 := by rw [hw1]; simp
 have HROW := Hd (kJ 277 #[.pointer (some ⟨w.heap.size,0,none⟩),.pointer (some ⟨w.heap.size + 2,0,none⟩),.pointer (some ⟨w.heap.size + 1,0,none⟩),.pointer (some ⟨w.heap.size + 3,0,none⟩)] tb mC vcC B VC vr vals rows sc (fH fA fB sc xs ys) w1 hlc (by rw [sF,hlc])
  (fun k hk => by
   rw [lW fA fB sc xs ys jj];have := AL hfA (lV (l := sc) (k := k) jj) (by rw [hxl,hla]) hx1;omega) hm.1 jj hrows (fun _ _ => rfl)
  (fun w9 k hk hf9 => by
   have hsm := lV (l := sc) (k := k) jj;have h99 : ∀ j,j < w1.heap.size → ¬ w1.heap.size ≤ j := fun j h1 h2 => by omega
   have F9 : Fr (fun j => w1.heap.size ≤ j) w w9 := (hf.mono uu).trans' hf9;rw [lW fA fB sc xs ys jj];refine vG (sc.getD k ByteArray.empty) _ _ w.heap.size (w.heap.size + 2) (w.heap.size + 1) (w.heap.size + 3) VA AA XA VB AB YA ma ca na nca ma xc mb cb nb ncb mb yc w9 (b1.fr hf9 (h99 _ b1.lt)) (b3.fr hf9 (h99 _ b3.lt)) (b2.fr hf9 (h99 _ b2.lt)) (b4.fr hf9 (h99 _ b4.lt)) (fun W hW => ?_) (fun W hW => ?_)
   · exact ip ma ca Ba Bx _ VA (.slice AA na nca) sa _ _ (.slice XA ma xc) xs W hm.2.1 (hfA _ hsm).1 hxl (aa (aa hA F9 (fun j hj h => by have := cU hA hj; omega)) hW ii) ((aa (aa hX F9 (fun j hj h => by have := cU hX hj; omega)) hW ii))
   · exact ip mb cb Bb By _ VB (.slice AB nb ncb) sb _ _ (.slice YA mb yc) ys W hm.2.2 (hfB _ hsm).1 hyl (aa (aa hBr F9 (fun j hj h => by have := cU hBr hj; omega)) hW ii) ((aa (aa hY F9 (fun j hj h => by have := cU hY hj; omega)) hW ii)))
  (ht.fr hf id) (aa hv hf ii) (hr.frF hf))
 have HF := Hd hf;have HW := Hd hw1;have HZ := Hd hz1;generalize fH fA fB sc xs ys = mr at *;clear hA hBr hX hY ht hv hr hfA hfB hx1 hy1 b1 b2 b3 b4 e1 e2 e3 hf hw1 hz1;go_enter func229,ntmps229;go_wp2_with fail;rw [← HW.out];refine HROW.mono ?_;rintro e w2 ⟨rfl,vr',vals',h1,h2,h3,h4,h5,h6⟩;have hz := HZ.out;have HP := Hd (show kI w B tb mC vcC VC vr vals rows mr (.returned (.tuple #[])) w2 from ⟨rfl,vr',vals',h1,h2,(HF.mono uu).trans' h3,fun k hk => (h4 k hk).imp id (fun h => by omega),h5,fun k hk => by have := h6 k hk; omega⟩);clear h1 h2 h3 h4 h5 h6 hz;go_wp2_with fail
 go_end0;exact HP
def fk (sa sb : List ByteArray) : List ByteArray := ded (df (sa ++ sb))
def qN (fB : ByteArray → Nat × Bool) (sa : List ByteArray) (x y : List Int) : Bool := fU (jF fB y) sa x
def bA (fA fB : ByteArray → Nat × Bool) (sa sc : List ByteArray) (rb : List (List Int)) (x : List Int) : List (List Int) := (rb.filter (qN fB sa x)).map (fH fA fB sc x)
theorem sG (fA fB : ByteArray → Nat × Bool) (sa sc : List ByteArray) (rb : List (List Int)) (x : List Int) (k : Nat) (hk : k < rb.length) : bA fA fB sa sc (rb.take (k + 1)) x = if qN fB sa x (rb.getD k []) = true then bA fA fB sa sc (rb.take k) x ++ [fH fA fB sc x (rb.getD k [])] else bA fA fB sa sc (rb.take k) x := by
 unfold bA;rw [List.take_add_one,List.getD_eq_getElem?_getD,List.getElem?_eq_getElem hk,List.filter_append];simp only [Option.getD_some,Option.toList_some,List.filter_cons,List.filter_nil];split <;> simp
theorem xO (fA fB : ByteArray → Nat × Bool) (sa sc : List ByteArray) (rb : List (List Int)) (x : List Int) (k : Nat) : (bA fA fB sa sc (rb.take k) x).length ≤ (bA fA fB sa sc rb x).length := by
 unfold bA
 conv => rhs; rw [← List.take_append_drop k rb]
 rw [List.filter_append,List.map_append,List.length_append];omega
structure JInv (w wr : World) (ob ma ca mb cb mC oc B : Nat) (VA VB OV : Option Addr) (vra vrb ovr : Value) (ovals : List Value) (sc : List ByteArray) (orows : List (List Int)) : Prop where
 boxa : Blk wr w.heap.size 47 #[.slice VA ma ca,vra]
 boxb : Blk wr (w.heap.size + 1) 47 #[.slice VB mb cb,vrb]
 res : Blk wr (w.heap.size + 1 + 1) 47 #[.slice none 0 0,.slice none 0 0]
 out : Blk wr ob 47 #[.slice OV mC oc,ovr]
 vars : wr.ownsRow B 9 1 (.slice OV mC oc) mC (sc.map .string)
 rows : ak wr B ovr ovals orows
 fr : Fr (fun _ => False) w wr
theorem JInv.frF {w' : World} (h : JInv w wr ob ma ca mb cb mC oc B VA VB OV vra vrb ovr ovals sc orows) (hf : Fr (fun _ => False) wr w') : JInv w w' ob ma ca mb cb mC oc B VA VB OV vra vrb ovr ovals sc orows :=
 ⟨h.boxa.fr hf id,h.boxb.fr hf id,h.res.fr hf id,h.out.fr hf id,aa h.vars hf ii,h.rows.frF hf,h.fr.trans' hf⟩
theorem JInv.push {vals6 : List Value} {rows6 : List (List Int)} (h : JInv w wr ob ma ca mb cb mC oc B VA VB OV vra vrb ovr ovals sc orows) (hB0 : w.heap.size ≤ B) (hob : w.heap.size + 2 < ob)
    (ho : Blk w6 ob 47 #[.slice OV mC oc,v6]) (hr : ak w6 B v6 vals6 rows6) (F : Fr (fun j => j = ob ∨ ovr.ownBlock = some j) wr w6) : JInv w w6 ob ma ca mb cb mC oc B VA VB OV vra vrb v6 vals6 sc rows6 :=
 ⟨h.boxa.fr F (fun e => e.elim (by omega) (fun e => ac h.rows.own h.boxa de e)),h.boxb.fr F (fun e => e.elim (by omega) (fun e => ac h.rows.own h.boxb de e)),h.res.fr F (fun e => e.elim (by omega) (fun e => ac h.rows.own h.res de e)),ho,
  aa h.vars F (fun j hj e => e.elim (fun e => ac h.vars h.out de (by rw [hj,e])) (fun e => aw h.vars h.rows.own de hj e)),hr,
  h.fr.trans F (fun j hj e => e.elim (by omega) (fun e => by have := bs h.rows.own e; omega))⟩
theorem EX (h : ak w B vr vals rows) {k : Nat} (hk : k < rows.length) (hl : (rows.getD k []).length = m) : ∃ X xc,vals.getD k undef = .slice X m xc ∧ ap w B (.slice X m xc) (rows.getD k []) := by
 obtain ⟨X,xc,e⟩ := ad (h.each k hk);have hr := h.each k hk;rw [hl] at e;rw [e] at hr;exact ⟨X,xc,e,hr⟩
def jG (m : Nat) (rows : List (List Int)) : Prop := ∀ i,i < rows.length → (rows.getD i []).length = m ∧ ∀ k,k < m → -1 ≤ (rows.getD i []).getD k 0
theorem AN (fA fB : ByteArray → Nat × Bool) (ma ca mb cb mC Ba Bb Bra Brb : Nat) (VA VB : Option Addr) (vra vrb : Value) (valsa valsb : List Value) (sa sb sc : List ByteArray) (ra rb : List (List Int)) (w : World) (hsc : fk sa sb = sc) (hlc : sc.length = mC) (hla : sa.length = ma) (hlb : sb.length = mb) (h0 : 0 < ma + mb) (h9 : ma + mb ≤ 9)
    (hfA : dY sa fA sc) (hfB : dY sb fB sc) (hfB2 : dY sb fB sa) (hra : jG ma ra) (hrb : jG mb rb) (hna : ra.length ≤ 4096) (hnb : rb.length ≤ 4096) (hnt : (ra.flatMap (bA fA fB sa sc rb)).length ≤ 4096)
    (hA : w.ownsRow Ba 9 1 (.slice VA ma ca) ma (sa.map .string)) (hBv : w.ownsRow Bb 9 1 (.slice VB mb cb) mb (sb.map .string)) (hRA : ak w Bra vra valsa ra) (hRB : ak w Brb vrb valsb rb) :
    Calls prog 168 #[.agg #[.slice VA ma ca,vra],.agg #[.slice VB mb cb,vrb]] w (aQ w mC sc (ra.flatMap (bA fA fB sa sc rb))) := by
 obtain ⟨AA,caa,hva⟩ := ad hRA.own;subst hva;obtain ⟨AB,cab,hvb⟩ := ad hRB.own;subst hvb;obtain ⟨w0,hw0⟩ : ∃ w0,w0 = ((w.alloc (.cells #[.slice VA ma ca,.slice AA ra.length caa] 47)).alloc (.cells #[.slice VB mb cb,.slice AB rb.length cab] 47)).alloc (.cells #[.slice none 0 0,.slice none 0 0] 47) := ⟨_,rfl⟩;have hf : Fr (fun _ => False) w w0 := by rw [hw0]; exact (((Fr.refl _ w).alloc _).alloc _).alloc _
 have e1 := al1 w (.cells #[.slice VA ma ca,.slice AA ra.length caa] 47);have e2 := k7 w (.cells #[.slice VA ma ca,.slice AA ra.length caa] 47) (.cells #[.slice VB mb cb,.slice AB rb.length cab] 47);have b1 : Blk w0 w.heap.size 47 #[.slice VA ma ca,.slice AA ra.length caa] := by rw [hw0]; exact ((Blk.new w 47 _).alloc _).alloc _
 have b2 : Blk w0 (w.heap.size + 1) 47 #[.slice VB mb cb,.slice AB rb.length cab] := by rw [hw0,← e1]; exact (Blk.new _ 47 _).alloc _
 have b3 : Blk w0 (w.heap.size + 2) 47 #[.slice none 0 0,.slice none 0 0] := by rw [hw0,← e2]; exact Blk.new _ 47 _
 have hz0 : w0.heap.size = w.heap.size + 3 := by rw [hw0]; simp
 have hg0 := Fr.a1 w0 (.cells #[.slice VA ma ca,.slice VB mb cb] 31);have hcat := (nP w0.heap.size ma ca mb cb Ba Bb VA VB sa sb (w0.alloc (.cells #[.slice VA ma ca,.slice VB mb cb] 31)) (Blk.new w0 31 _) (aa hA (hf.trans' hg0) ii) (aa hBv (hf.trans' hg0) ii) h0 jj);rw [show w0.heap.size = w.heap.size + 1 + 1 + 1 from hz0] at hcat;have HCAT := Hd hcat;have HV := Hd (fun g c B W (h : W.ownsRow B 9 1 (.slice (some ⟨g,0,none⟩) (ma + mb) c) (ma + mb) ((sa ++ sb).map .string)) => nJ g (ma + mb) c (sa ++ sb) W h0 h9 (fun j hj => bL h j hj) (by rw [List.length_append,hla,hlb]));have hsc' : ded (df (sa ++ sb)) = sc := hsc;rw [hsc',hlc] at HV;unfold eK at HCAT HV;have HSCL := Hd (show mC = (ded (df (sa ++ sb))).length ∧ (sa ++ sb).length = ma + mb from ⟨by rw [← hlc,← hsc]; rfl,by rw [List.length_append,hla,hlb]⟩);have HF := Hd hf;have HB1 := Hd b1;have HB2 := Hd b2;have HB3 := Hd b3;have HW := Hd hw0;have HZ := Hd hz0;have HA := Hd hA;have HBV := Hd hBv;have HRA := Hd hRA;have HRB := Hd hRB;have HMA := Hd hra;have HMB := Hd hrb;have HFA := Hd hfA;have HFB := Hd hfB;have HFB2 := Hd hfB2;have HLA := Hd hla;have HLB := Hd hlb;have HLC := Hd hlc;have HNT := Hd hnt;clear hcat hA hBv hRA hRB hra hrb hfA hfB hfB2 b1 b2 b3 e1 e2 hf hw0 hg0 hsc hsc' hla hlb hlc hnt;go_enter func168,ntmps168;go_wp2_with fail;rw [← HW.out];have hz0 := HZ.out;refine HCAT.out.mono ?_;rintro e w1 ⟨V,c,rfl,hrow1,hf1⟩;obtain ⟨g1,rfl,_,_,_⟩ := ar hrow1 h0;have F1 : Fr (fun _ => False) w0 w1 := ((Fr.refl (fun _ => False) w0).alloc _).trans' hf1;have HR1 := Hd hrow1;have HF1 := Hd F1;have hsz1 := F1.size;clear hrow1 hf1 F1;go_wp2_with fail;refine (HV.out g1 c _ w1 HR1.out).mono ?_;rintro e w2 ⟨OV,oc,rfl,hrow2,hf2⟩;have HF2 := Hd (HF1.out.trans' hf2);have hsz2 := hf2.size;have HST := Hd (show JInv w (w2.alloc (.cells #[.slice OV mC oc,.slice none 0 0] 47)) w2.heap.size ma ca mb cb mC oc w1.heap.size VA VB OV (.slice AA ra.length caa) (.slice AB rb.length cab) (.slice none 0 0) [] sc [] from
  ⟨(HB1.out.fr HF2.out id).alloc _,(HB2.out.fr HF2.out id).alloc _,(HB3.out.fr HF2.out id).alloc _,Blk.new _ _ _,hrow2.alloc _,⟨World.ownsRow_nil _ _ _ _,fun i hi => absurd hi (by simp)⟩,(HF.out.trans' HF2.out).alloc _⟩)
 have a1 := HST.out.boxa.c1;have a1' := (HB1.out.fr HF2.out id).c1;have hlt1 : w.heap.size < w2.heap.size := jj;have hob : w.heap.size + 1 + 1 < w2.heap.size := jj;have hB0 : w.heap.size ≤ w1.heap.size := jj;clear hrow2 hf2;go_wp2_with fail;generalize (w2.alloc (.cells #[.slice OV mC oc,.slice none 0 0] 47)) = w3 at *
 go_loopw [7,21] (fun _ iv wr => ∃ (i : Nat) (ovr : Value) (ovals : List Value),iv = .int .i64 (i : Int) ∧ i ≤ ra.length ∧ JInv w wr w2.heap.size ma ca mb cb mC oc w1.heap.size VA VB OV (.slice AA ra.length caa) (.slice AB rb.length cab) ovr ovals sc ((ra.take i).flatMap (bA fA fB sa sc rb))) (fun _ iv _ => ra.length - (intOf iv).toNat)
 case atStart => exact ⟨0,_,_,rfl,Nat.zero_le _,HST.out⟩
 case round =>
  obtain ⟨i,ovr,ovals,rfl,hi,hj⟩ := hrel;have HJ := Hd hj;by_cases hlt : i < ra.length
  · have hlt' : (i : Int) < (ra.length : Int) := jj;have hrr := HRA.out.frF hj.fr;obtain ⟨XA,xc,hxv,hxr⟩ := EX HRA.out hlt (HMA.out i hlt).1;obtain ⟨ga,rfl,_,_,_⟩ := ar hrr.own jj;have hck : wr.cell? ⟨ga,i,none⟩ = some (.slice XA ma xc) := by
     rw [World.ownsRow.cellAt hrr.own i (by have := hrr.len; omega),← hxv,List.getD_eq_getElem?_getD,List.getElem?_eq_getElem (by have := hrr.len; omega)];rfl
    have t1 := hj.boxb.c1;have HXR := Hd hxr;have HFT := Hd (j9 (bA fA fB sa sc rb) ra i hlt);have hle := jE (bA fA fB sa sc rb) ra (i + 1);rw [HFT.out,List.length_append] at hle;have HMX := Hd (HMA.out i hlt);generalize hR0 : (ra.take i).flatMap (bA fA fB sa sc rb) = R0 at *;generalize ra.getD i [] = xs at *;have HLE := Hd hle;clear hrr hj hxr hxv hle;go_wp2_with fail;obtain ⟨wo,rfl⟩ : ∃ wo,wo = wr := ⟨wr,rfl⟩
    go_loopw [9,28] (fun _ iv wr => ∃ (j : Nat) (ovr : Value) (ovals : List Value),iv = .int .i64 (j : Int) ∧ j ≤ rb.length ∧ JInv w wr w2.heap.size ma ca mb cb mC oc w1.heap.size VA VB OV (.slice (some ⟨ga,0,none⟩) ra.length caa) (.slice AB rb.length cab) ovr ovals sc (R0 ++ bA fA fB sa sc (rb.take j) xs)) (fun _ iv _ => rb.length - (intOf iv).toNat)
    case atStart => exact ⟨0,_,_,rfl,Nat.zero_le _,by rw [List.take_zero]; unfold bA; rw [List.filter_nil,List.map_nil,List.append_nil]; exact HJ.out⟩
    case round =>
     obtain ⟨j,ovr2,ovals2,rfl,hj,hk⟩ := hrel;have HK := Hd hk;by_cases hlt2 : j < rb.length
     · have hlt2' : (j : Int) < (rb.length : Int) := jj;have hrr := HRB.out.frF hk.fr;obtain ⟨YA,yc,hyv,hyr⟩ := EX HRB.out hlt2 (HMB.out j hlt2).1;obtain ⟨gb,rfl,_,_,_⟩ := ar hrr.own jj;have hck2 : wr.cell? ⟨gb,j,none⟩ = some (.slice YA mb yc) := by
        rw [World.ownsRow.cellAt hrr.own j (by have := hrr.len; omega),← hyv,List.getD_eq_getElem?_getD,List.getElem?_eq_getElem (by have := hrr.len; omega)];rfl
       have HYR := Hd hyr;have HMY := Hd (HMB.out j hlt2);have HST2 := Hd (sG fA fB sa sc rb xs j hlt2);have hjl := xO fA fB sa sc rb xs (j + 1);have hle := HLE.out;generalize rb.getD j [] = ys at *;generalize hJ0 : bA fA fB sa sc (rb.take j) xs = J0 at *;have p0 := hk.boxa.c0;have p1 := hk.boxa.c1;have q0 := hk.boxb.c0;have q1 := hk.boxb.c1;have HAr := Hd (aa HA.out hk.fr ii);have HBr := Hd (aa HBV.out hk.fr ii);have HXr := Hd (aa HXR.out (hk.fr) ii);have HYr := Hd (aa HYR.out (hk.fr) ii);have HCO := Hd (mT (jF fB ys) VA (some ⟨ga,0,none⟩) XA YA VB (some ⟨gb,0,none⟩) ma ca ra.length caa xc mb cb rb.length cab mb yc Ba Bra sa xs wr HLA.out HMX.out.1 jj HAr.out (by have h := HXr.out; unfold ap at h; rw [HMX.out.1] at h; exact h)
        (fun v hv W hW => ip mb cb Bb Brb _ VB (.slice (some ⟨gb,0,none⟩) rb.length cab) sb v _ (.slice YA mb yc) ys W jj (HFB2.out v hv).1 HMY.out.1 (aa HBr.out hW ii) (aa HYr.out hW ii)))
       have HCF := Hd (show fU (jF fB ys) sa xs = qN fB sa xs ys from rfl);rw [HCF.out] at HCO;clear hrr hyr hyv hk;cases hcf : qN fB sa xs ys with
       | false =>
        rw [hcf] at HCO HST2;rw [if_neg Bool.false_ne_true] at HST2;have HS2 := Hd HST2.out;clear hcf;go_wp2_with fail;refine HCO.out.mono ?_;rintro e w4 ⟨rfl,hf4⟩;have HN := Hd (HK.out.frF hf4);clear hf4;go_wp2_with fail;go_roundw
        case rel => exact ⟨j + 1,_,_,by go_num,by omega,by rw [HS2.out]; exact HN.out⟩
        case measure => simp [intOf]; omega
       | true =>
        rw [hcf] at HCO HST2;rw [if_pos rfl] at HST2;have HS2 := Hd HST2.out;clear hcf;go_wp2_with fail;refine HCO.out.mono ?_;rintro e w4 ⟨rfl,hf4⟩;have hk4 := HK.out.frF hf4;have HK4 := Hd hk4;have s0 := hk4.boxa.c0;have s1 := hk4.boxa.c1;have s2 := hk4.boxb.c0;have s3 := hk4.boxb.c1;have hlen : (R0 ++ J0).length ≤ 4096 := by
         rw [HS2.out,List.length_append] at hjl;rw [List.length_append];have := jE (bA fA fB sa sc rb) ra (i + 1);have hn := HNT.out;simp at hjl;omega
        have HJO := Hd (vI fA fB w2.heap.size mC oc w1.heap.size ma ca mb cb ra.length caa rb.length cab xc yc Ba Bb Bra Brb OV VA VB (some ⟨ga,0,none⟩) (some ⟨gb,0,none⟩) XA YA ovr2 ovals2 (R0 ++ J0) sa sb sc xs ys w4 HLA.out HLB.out HLC.out ⟨by have := uc (df (sa ++ sb)); have := vB (sa ++ sb); have := HSCL.out; omega,by omega,by omega⟩ HMX.out.1 HMY.out.1 HFA.out HFB.out (fun k hk => HMX.out.2 k (by rw [← HMX.out.1]; exact hk)) (fun k hk => HMY.out.2 k (by rw [← HMY.out.1]; exact hk)) (by have := HK4.out.out.lt; omega) hlen
         (aa HAr.out hf4 ii) (aa HBr.out hf4 ii) (aa HXr.out hf4 ii) (aa HYr.out hf4 ii) hk4.out hk4.vars hk4.rows)
        unfold kI at HJO;clear hf4 hk4;go_wp2_with fail;refine HJO.out.mono ?_;rintro e w5 ⟨rfl,vr5,vals5,hb5,hr5,hf5,_,_,_⟩;have HN := Hd (HK4.out.push hB0 jj hb5 hr5 hf5);rw [List.append_assoc,← HS2.out] at HN;clear hb5 hr5 hf5;go_wp2_with fail;go_roundw
        case rel => exact ⟨j + 1,_,_,by go_num,by omega,HN.out⟩
        case measure => simp [intOf]; omega
     · have hlt2' : ¬ (j : Int) < (rb.length : Int) := jj;have hjn : rb.take j = rb := List.take_of_length_le jj;rw [hjn,← HFT.out] at HK;clear hk;go_wp2_with fail;go_roundw
       case rel => exact ⟨i + 1,_,_,by go_num,by omega,HK.out⟩
       case measure => simp [intOf]; omega
  · have hlt' : ¬ (i : Int) < (ra.length : Int) := jj;have hin : ra.take i = ra := List.take_of_length_le jj;rw [hin] at hj HJ;generalize ra.flatMap (bA fA fB sa sc rb) = R0 at *;obtain ⟨OA,oac,hor⟩ := ad hj.rows.own;subst hor;have t0 := hj.out.c0;have t1 := hj.out.c1;have hbs := hj.res;have f0 := hbs.frozen 0;have cc0 := hbs.c0;have hlb := hbs.lt;have hb2 := hbs.set_ 0 (.slice OV mC oc);have cc1 := hb2.c1;have f12 : (wr.setCell ⟨w.heap.size + 1 + 1,0,none⟩ (.slice OV mC oc)).frozen? ⟨w.heap.size + 1 + 1,1,none⟩ = false := hb2.frozen 1;have hb3 : Blk ((wr.setCell ⟨w.heap.size + 1 + 1,0,none⟩ (.slice OV mC oc)).setCell ⟨w.heap.size + 1 + 1,1,none⟩ (.slice OA R0.length oac)) (w.heap.size + 1 + 1) 47 #[.slice OV mC oc,.slice OA R0.length oac] := hb2.set_ 1 (.slice OA R0.length oac);have FS : Fr (fun j => j = w.heap.size + 1 + 1) wr ((wr.setCell ⟨w.heap.size + 1 + 1,0,none⟩ (.slice OV mC oc)).setCell ⟨w.heap.size + 1 + 1,1,none⟩ (.slice OA R0.length oac)) := ((Fr.refl (fun j => j = w.heap.size + 1 + 1) wr).setCell ⟨w.heap.size + 1 + 1,0,none⟩ (fun _ => rfl) _).setCell ⟨w.heap.size + 1 + 1,1,none⟩ (fun _ => rfl) _;have HB3 := Hd hb3;have HRA3 := Hd ((hj.rows.frB hbs de de FS).base hB0);have HVR3 := Hd (ai (aa hj.vars FS (fun k hk e => ac hj.vars hbs de (by rw [hk,e]))) hB0);have HF3 := Hd (hj.fr.trans FS (fun j _ h => by omega));clear hj hbs hb2 hb3 FS;go_wp2_with fail;exact bodyPost_ret (v := .agg #[.slice OV mC oc,.slice OA R0.length oac]) (results_cell_row rfl _ _ (w.heap.size + 1 + 1) 47 _ (0,0) _ rfl HB3.out underlying47 rfl kr) rfl ⟨_,rfl,⟨OV,oc,.slice OA R0.length oac,ovals,rfl,HVR3.out,HRA3.out⟩,HF3.out⟩
end Go.Proofs.YtfaapkpebnagmaaGreatDoor
