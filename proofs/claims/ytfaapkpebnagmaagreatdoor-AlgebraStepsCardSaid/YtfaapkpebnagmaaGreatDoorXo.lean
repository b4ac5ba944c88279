/- Texts of the proof, one behind the other: Xh, Xb, Xi, Wf, Xk, Xl, Rv, Rz, Qa, Bs, Qb, Qc, Qd. -/
import Derived.Test.YtfaapkpebnagmaaGreatDoorXn
namespace Go.Proofs.YtfaapkpebnagmaaGreatDoor
open _root_.Go.Proofs.Tryz
open Go.RowKit Go
set_option linter.unusedVariables false
set_option maxRecDepth 100000
set_option maxHeartbeats 400000000
variable {w w' a c : World} {rs r hd : List Int} {B p b g e x N p' d q : Nat} {ts : List PT} {v : Value} {L : List (List Value)} {cs : Array Value} {t : PT} {l : List Value} {One : Nat → PT → Nat → Nat → Prop}
theorem di {w1 : World} {rb mC oc oac : Nat} {OV OA : Option Addr} {ovals : List Value} {sc : List ByteArray} {R0 : List (List Int)} (hbs : Blk w1 rb 47 #[.slice none 0 0,.slice none 0 0]) (hB : w.heap.size ≤ B) (hv : w1.ownsRow B 9 1 (.slice OV mC oc) mC (sc.map .string)) (hr : ak w1 B (.slice OA R0.length oac) ovals R0) (hf : Fr (fun _ => False) w w1) (hrb : w.heap.size < rb + 1) :
    (w1.setCell ⟨rb,0,none⟩ (.slice OV mC oc)).cell? ⟨rb,1,none⟩ = some (.slice none 0 0) ∧ (w1.setCell ⟨rb,0,none⟩ (.slice OV mC oc)).frozen? ⟨rb,1,none⟩ = false ∧ rb < (w1.setCell ⟨rb,0,none⟩ (.slice OV mC oc)).heap.size ∧
    Blk ((w1.setCell ⟨rb,0,none⟩ (.slice OV mC oc)).setCell ⟨rb,1,none⟩ (.slice OA R0.length oac)) rb 47 #[.slice OV mC oc,.slice OA R0.length oac] ∧
    aQ w mC sc R0 (.returned (.agg #[.slice OV mC oc,.slice OA R0.length oac])) ((w1.setCell ⟨rb,0,none⟩ (.slice OV mC oc)).setCell ⟨rb,1,none⟩ (.slice OA R0.length oac)) := by
 have hb2 := hbs.set_ 0 (.slice OV mC oc);have hb3 : Blk ((w1.setCell ⟨rb,0,none⟩ (.slice OV mC oc)).setCell ⟨rb,1,none⟩ (.slice OA R0.length oac)) rb 47 #[.slice OV mC oc,.slice OA R0.length oac] := hb2.set_ 1 (.slice OA R0.length oac);have FS : Fr (fun j => j = rb) w1 ((w1.setCell ⟨rb,0,none⟩ (.slice OV mC oc)).setCell ⟨rb,1,none⟩ (.slice OA R0.length oac)) := ((Fr.refl (fun j => j = rb) w1).setCell ⟨rb,0,none⟩ (fun _ => rfl) _).setCell ⟨rb,1,none⟩ (fun _ => rfl) _;exact ⟨hb2.cell 1,hb2.frozen 1,hb2.lt,hb3,⟨_,rfl,⟨OV,oc,.slice OA R0.length oac,ovals,rfl,ai (aa hv FS (fun k hk e => ac hv hbs de (by rw [hk,e]))) hB,(hr.frB hbs de de FS).base hB⟩,hf.trans FS (fun j _ h => by omega)⟩⟩
theorem qO (fA fB : ByteArray → Nat × Bool) (bb ma ca mb cb mC Ba Bb Bra Brb : Nat) (VA VB : Option Addr) (vra vrb : Value) (valsa valsb : List Value) (sa sb sc : List ByteArray) (ra rb : List (List Int)) (w : World) (hbb : Blk w bb 47 #[.slice VB mb cb,vrb]) (hsc : fk sa sb = sc) (hlc : sc.length = mC) (hla : sa.length = ma) (hlb : sb.length = mb) (h0 : 0 < ma + mb) (h9 : ma + mb ≤ 9)
    (hfA : dY sa fA sc) (hfB : dY sb fB sc) (hfB2 : dY sb fB sa) (hra : jG ma ra) (hrb : jG mb rb) (hna : ra.length ≤ 4096) (hnb : rb.length ≤ 4096) (hnt : (ra.flatMap (bA fA fB sa sc rb)).length ≤ 4096)
    (hA : w.ownsRow Ba 9 1 (.slice VA ma ca) ma (sa.map .string)) (hBv : w.ownsRow Bb 9 1 (.slice VB mb cb) mb (sb.map .string)) (hRA : ak w Bra vra valsa ra) (hRB : ak w Brb vrb valsb rb) :
    Calls prog 167 #[.agg #[.slice VA ma ca,vra],.pointer (some ⟨bb,0,none⟩)] w (aQ w mC sc (ra.flatMap (bA fA fB sa sc rb))) := by
 obtain ⟨AA,caa,hva⟩ := ad hRA.own;subst hva;obtain ⟨AB,cab,hvb⟩ := ad hRB.own;subst hvb;obtain ⟨w0,hw0⟩ : ∃ w0,w0 = (w.alloc (.cells #[.slice VA ma ca,.slice AA ra.length caa] 47)).alloc (.cells #[.slice none 0 0,.slice none 0 0] 47) := ⟨_,rfl⟩;have hf : Fr (fun _ => False) w w0 := by rw [hw0]; exact ((Fr.refl _ w).alloc _).alloc _
 have e1 := al1 w (.cells #[.slice VA ma ca,.slice AA ra.length caa] 47);have b3 : Blk w0 (w.heap.size + 1) 47 #[.slice none 0 0,.slice none 0 0] := by rw [hw0,← e1]; exact Blk.new _ 47 _
 have hz0 : w0.heap.size = w.heap.size + 2 := by rw [hw0]; simp
 have HJ := Hd (AN fA fB ma ca mb cb mC Ba Bb Bra Brb VA VB (.slice AA ra.length caa) (.slice AB rb.length cab) valsa valsb sa sb sc ra rb w0 hsc hlc hla hlb h0 h9 hfA hfB hfB2 hra hrb hna hnb hnt (aa hA hf ii) (aa hBv hf ii) (hRA.frF hf) (hRB.frF hf));have y0 := hbb.c0;have y1 := hbb.c1;have hbl := hbb.lt;have hbl1 : bb < w.heap.size + 1 := jj;have HF := Hd hf;have HB3 := Hd b3;have HW := Hd hw0;unfold aQ at HJ;generalize ra.flatMap (bA fA fB sa sc rb) = R0 at *;clear hA hBv hRA hRB hra hrb hfA hfB hfB2 b3 e1 hf hw0 hsc hlc hla hlb hnt hbb;go_enter func167,ntmps167;go_wp2_with fail;rw [← HW.out];refine HJ.mono ?_;rintro e w1 ⟨tv,rfl,⟨OV,oc,ovr,ovals,rfl,hv,hr⟩,hf1⟩;obtain ⟨OA,oac,hor⟩ := ad hr.own;subst hor;have hbs := HB3.fr hf1 id;have f0 := hbs.frozen 0;have cc0 := hbs.c0;have hlb := hbs.lt;have HEND := Hd (di hbs (by omega : w.heap.size ≤ w0.heap.size) hv hr (HF.trans' hf1) jj);have cc1 := HEND.1;have f12 := HEND.2.1;clear hbs hv hr hf1;go_wp2_with fail;exact bodyPost_ret (v := .agg #[.slice OV mC oc,.slice OA R0.length oac]) (results_cell_row rfl _ _ (w.heap.size + 1) 47 _ (0,0) _ rfl HEND.2.2.2.1 underlying47 rfl kr) rfl HEND.2.2.2.2
theorem AP (h : ap w B v r) (hb : Blk w g 99 #[v]) : ak w 0 (.slice (some ⟨g,0,none⟩) 1 1) [v] [r] := by
 refine ⟨⟨rfl,.inr ⟨g,1,#[v],rfl,Nat.zero_le _,hb,Nat.le_refl _,by decide,rfl,rfl⟩⟩,fun i hi => ?_⟩;have : i = 0 := by simpa using hi
 subst this;exact ai h (Nat.zero_le _)
theorem AQ (fA fB : ByteArray → Nat × Bool) (eb ma ca mb cb mC Ba Bb Bra Brb : Nat) (d s mp : Value) (VA VB : Option Addr) (vra vrb : Value) (valsa valsb : List Value) (sa sb sc : List ByteArray) (ra rb : List (List Int)) (w : World) (hE : Blk w eb 95 #[d,s,mp,.int .i64 0]) (hsc : fk sa sb = sc) (hlc : sc.length = mC) (hla : sa.length = ma) (hlb : sb.length = mb) (h0 : 0 < ma + mb) (h9 : ma + mb ≤ 9) (h9c : mC ≤ 9)
    (hfA : dY sa fA sc) (hfB : dY sb fB sc) (hfB2 : dY sb fB sa) (hra : jG ma ra) (hrb : jG mb rb) (hna : ra.length ≤ 4096) (hnb : rb.length ≤ 4096) (hnt : (ra.flatMap (bA fA fB sa sc rb)).length ≤ 4096)
    (hA : w.ownsRow Ba 9 1 (.slice VA ma ca) ma (sa.map .string)) (hBv : w.ownsRow Bb 9 1 (.slice VB mb cb) mb (sb.map .string)) (hRA : ak w Bra vra valsa ra) (hRB : ak w Brb vrb valsb rb) :
    Calls prog 123 #[.pointer (some ⟨eb,0,none⟩),.agg #[.slice VA ma ca,vra],.agg #[.slice VB mb cb,vrb]] w (aQ w mC sc (ra.flatMap (bA fA fB sa sc rb))) := by
 obtain ⟨AA,caa,hva⟩ := ad hRA.own;subst hva;obtain ⟨AB,cab,hvb⟩ := ad hRB.own;subst hvb;obtain ⟨w0,hw0⟩ : ∃ w0,w0 = ((w.alloc (.cells #[.slice VA ma ca,.slice AA ra.length caa] 47)).alloc (.cells #[.slice VB mb cb,.slice AB rb.length cab] 47)).alloc (.cells #[.slice none 0 0,.slice none 0 0] 47) := ⟨_,rfl⟩;have hf : Fr (fun _ => False) w w0 := by rw [hw0]; exact (((Fr.refl _ w).alloc _).alloc _).alloc _
 have e1 := al1 w (.cells #[.slice VA ma ca,.slice AA ra.length caa] 47);have e2 := al2 w (.cells #[.slice VA ma ca,.slice AA ra.length caa] 47) (.cells #[.slice VB mb cb,.slice AB rb.length cab] 47);have b2 : Blk w0 (w.heap.size + 1) 47 #[.slice VB mb cb,.slice AB rb.length cab] := by rw [hw0,← e1]; exact (Blk.new _ 47 _).alloc _
 have b3 : Blk w0 (w.heap.size + 1 + 1) 47 #[.slice none 0 0,.slice none 0 0] := by rw [hw0,← e2]; exact Blk.new _ 47 _
 have hz0 : w0.heap.size = w.heap.size + 3 := by rw [hw0]; simp
 have hjl : ∀ k,k < ra.length → (bA fA fB sa sc rb (ra.getD k [])).length ≤ 4096 := fun k hk => by
  have h1 := j9 (bA fA fB sa sc rb) ra k hk;have h2 := jE (bA fA fB sa sc rb) ra (k + 1);rw [h1,List.length_append] at h2;omega
 have HP := Hd (vH 167 #[.pointer (some ⟨w.heap.size + 1,0,none⟩)] (bA fA fB sa sc rb) eb ma ca mC Ba Bra d s mp VA (.slice AA ra.length caa) valsa sa sc ra w0 jj jj (hE.fr hf id) (aa hA hf ii) (hRA.frF hf) hna hnt (fun _ _ => rfl)
  ⟨fun W hW => qO fA fB (w.heap.size + 1) ma ca mb cb mC Ba Bb 0 Brb VA VB (.slice none 0 0) (.slice AB rb.length cab) [] valsb sa sb sc [] rb W (b2.fr hW id) hsc hlc hla hlb h0 h9 hfA hfB hfB2 (fun i hi => absurd hi (by simp)) hrb (by simp) hnb (by simp) (aa hA (hf.trans' hW) ii) (aa hBv (hf.trans' hW) ii) ⟨World.ownsRow_nil _ _ _ _,fun i hi => absurd hi (by simp)⟩ (hRB.frF (hf.trans' hW)),
   fun W g k hk hW hg => by
    have h := qO fA fB (w.heap.size + 1) ma ca mb cb mC Ba Bb 0 Brb VA VB (.slice (some ⟨g,0,none⟩) 1 1) (.slice AB rb.length cab) [valsa.getD k undef] valsb sa sb sc [ra.getD k []] rb W (b2.fr hW id) hsc hlc hla hlb h0 h9 hfA hfB hfB2 (fun i hi => by
        have : i = 0 := by simpa using hi
        subst this;exact hra k hk) hrb (by simp) hnb (by simpa using hjl k hk) (aa hA (hf.trans' hW) ii) (aa hBv (hf.trans' hW) ii) (AP ((hRA.frF (hf.trans' hW)).each k hk) hg) (hRB.frF (hf.trans' hW))
    have e : [ra.getD k []].flatMap (bA fA fB sa sc rb) = bA fA fB sa sc rb (ra.getD k []) := by simp
    rw [e] at h;exact h⟩)
 have HF := Hd hf;have HB3 := Hd b3;have HW := Hd hw0;unfold aQ at HP;generalize ra.flatMap (bA fA fB sa sc rb) = R0 at *;clear hA hBv hRA hRB hra hrb hfA hfB hfB2 b2 b3 e1 e2 hf hw0 hsc hlc hla hlb hnt hE hjl;go_enter func123,ntmps123;go_wp2_with fail;rw [← HW.out];refine HP.mono ?_;rintro e w1 ⟨tv,rfl,⟨OV,oc,ovr,ovals,rfl,hv,hr⟩,hf1⟩;obtain ⟨OA,oac,hor⟩ := ad hr.own;subst hor;have hbs := HB3.fr hf1 id;have f0 := hbs.frozen 0;have cc0 := hbs.c0;have hlb := hbs.lt;have HEND := Hd (di hbs (by omega : w.heap.size ≤ w0.heap.size) hv hr (HF.trans' hf1) jj);have cc1 := HEND.1;have f12 := HEND.2.1;clear hbs hv hr hf1;go_wp2_with fail;exact bodyPost_ret (v := .agg #[.slice OV mC oc,.slice OA R0.length oac]) (results_cell_row rfl _ _ (w.heap.size + 1 + 1) 47 _ (0,0) _ rfl HEND.2.2.2.1 underlying47 rfl kr) rfl HEND.2.2.2.2
def uh (vr0 : Value) (w : World) (B tb m vc : Nat) (V : Option Addr) (rows : List (List Int)) (e : Ending) (w' : World) : Prop :=
 e = .returned (.tuple #[]) ∧ ∃ vr vals,Blk w' tb 47 #[.slice V m vc,vr] ∧ ak w' B vr vals rows ∧ Fr (fun j => j = tb ∨ vr0.ownBlock = some j) w w'
structure xP (vr0 : Value) (w1 wr : World) (n0 B tb m vc : Nat) (V : Option Addr) (vr : Value) (vals : List Value) (rows : List (List Int)) : Prop where
 tab : Blk wr tb 47 #[.slice V m vc,vr]
 rows : ak wr B vr vals rows
 new : ∀ j,vr.ownBlock = some j → n0 ≤ j ∨ vr0.ownBlock = some j
 fr : Fr (fun j => j = tb ∨ n0 ≤ j ∨ vr0.ownBlock = some j) w1 wr
theorem xQ (pf : Nat → Nat × Bool) (tb m vc tm tvc Ba Bt B : Nat) (V TV : Option Addr) (ts ss : List ByteArray) (avr vr0 : Value) (avals vals0 : List Value) (arows rows0 : List (List Int)) (w : World) (hm : m ≤ 4096) (ht : tm ≤ 4096) (hss : ss.length = m) (htl : ts.length = tm)
    (hpf : ∀ k,k < m → gR ts (ss.getD k ByteArray.empty) (pf k).1 (pf k).2) (hpl : ∀ k,k < m → (pf k).2 = true → (pf k).1 < tm) (hlen : ∀ i,i < arows.length → (arows.getD i []).length = tm) (hlo : ∀ i,i < arows.length → ∀ k,k < tm → -1 ≤ (arows.getD i []).getD k 0)
    (hn : arows.length + rows0.length ≤ 4096) (hB : B ≤ w.heap.size) (htb : Blk w tb 47 #[.slice V m vc,vr0]) (hr0 : ak w B vr0 vals0 rows0) (hfar : ∀ j,avr.ownBlock = some j → vr0.ownBlock ≠ some j) (hv : w.ownsRow B 9 1 (.slice V m vc) m (ss.map .string)) (htv : w.ownsRow Bt 9 1 (.slice TV tm tvc) tm (ts.map .string)) (har : ak w Ba avr avals arows) :
    Calls prog 35 #[.pointer (some ⟨tb,0,none⟩),.agg #[.slice TV tm tvc,avr]] w (uh vr0 w B tb m vc V (rows0 ++ arows.map (aJ pf m))) := by
 obtain ⟨AR,cR,hvr⟩ := ad har.own;subst hvr;have hf0 := Fr.a1 w (.cells #[.slice TV tm tvc,.slice AR arows.length cR] 47);have HA := Hd (Blk.new w 47 #[.slice TV tm tvc,.slice AR arows.length cR]);have HF0 := Hd hf0;have HT := Hd (htb.fr hf0 id);have HV := Hd (aa hv hf0 ii);have HR0 := Hd (hr0.frF hf0);have HTV := Hd (aa htv hf0 ii);have HAR := Hd (har.frF hf0);have htl2 := htb.lt;have HVL := Hd (fun j h => (hv.lt j h).2);have HTL := Hd (fun j h => (htv.lt j h).2);have HRL := Hd (fun j h => (har.own.lt j h).2);have HEL := Hd (fun i hi j h => ((har.each i hi).lt j h).2);have HPF := Hd hpf;have HPL := Hd hpl;have HLEN := Hd hlen;have HLO := Hd hlo;have HFAR := Hd hfar;clear htb hv htv har hr0 hfar hf0 hpf hpl hlen hlo;go_enter func35,ntmps35;go_wp2_with fail;have hsz1 : w.heap.size + 1 = (w.alloc (.cells #[.slice TV tm tvc,.slice AR arows.length cR] 47)).heap.size := by simp
 have HSZ := Hd hsz1;clear hsz1;generalize w.alloc (.cells #[.slice TV tm tvc,.slice AR arows.length cR] 47) = w1 at *
 go_loopw [9] (fun iv wr => ∃ (k : Nat) (vr : Value) (vals : List Value),iv = .int .i64 (k : Int) ∧ k ≤ arows.length ∧ xP vr0 w1 wr (w.heap.size + 1) B tb m vc V vr vals (rows0 ++ (arows.take k).map (aJ pf m))) (fun iv _ => arows.length - (intOf iv).toNat)
 case atStart => exact ⟨0,_,vals0,rfl,Nat.zero_le _,⟨HT,by rw [List.take_zero,List.map_nil,List.append_nil]; exact HR0,(fun j h => .inr h),Fr.refl _ _⟩⟩
 case round =>
  obtain ⟨k,vr,vals,rfl,hk,hi⟩ := hrel;have HI := Hd hi;have hne : ∀ j,j < w.heap.size → j ≠ tb → vr0.ownBlock ≠ some j → ¬ (j = tb ∨ w.heap.size + 1 ≤ j ∨ vr0.ownBlock = some j) := fun j h1 h2 h3 h => h.elim h2 (fun h => h.elim (fun h => by omega) h3);have hsz := hi.fr.size;have hS := HSZ.out;have hblk := HA.fr hi.fr (fun h => by
   rcases h with h | h | h
   · omega
   · omega
   · exact ac HR0.own HA.out de h)
  have hvN : ∀ j,(Value.slice V m vc).ownBlock = some j → j ≠ tb := fun j hj e => ac HV.out HT.out de (by rw [← e]; exact hj);have htN : ∀ j,(Value.slice TV tm tvc).ownBlock = some j → j ≠ tb := fun j hj e => ac HTV.out HT.out de (by rw [← e]; exact hj);have hrN : ∀ j,(Value.slice AR arows.length cR).ownBlock = some j → j ≠ tb := fun j hj e => ac HAR.own HT.out de (by rw [← e]; exact hj);have heN : ∀ i,i < arows.length → ∀ j,(avals.getD i undef).ownBlock = some j → j ≠ tb := fun i hi j hj e => ac (HAR.each i hi) HT.out de (by rw [← e]; exact hj);have hv2 := aa HV.out hi.fr (fun j hj => hne j (HVL.out j hj) (hvN j hj) (fun e => aw HV.out HR0.own de hj e));have htv2 := aa HTV.out hi.fr (fun j hj => hne j (HTL.out j hj) (htN j hj) (fun e => aw HTV.out HR0.own de hj e));have har2 := HAR.fr hi.fr (fun j hj => hne j (HRL.out j hj) (hrN j hj) (HFAR.out j hj)) (fun i hi2 j hj => hne j (HEL.out i hi2 j hj) (heN i hi2 j hj) (fun e => aw (HAR.each i hi2) HR0.own de hj e));by_cases hlt : k < arows.length
  · have hlt' : (k : Int) < (arows.length : Int) := jj;obtain ⟨ag,rfl,_,_,_⟩ := ar har2.own jj;obtain ⟨XA,xc,hxv⟩ := ad (har2.each k hlt);have hxl := HLEN.out k hlt;rw [hxl] at hxv;have ck : wr.cell? ⟨ag,k,none⟩ = some (.slice XA tm xc) := by
     have h1 := World.ownsRow.cellAt har2.own k (by have := har2.len; omega);rw [h1,← hxv,List.getD_eq_getElem?_getD,List.getElem?_eq_getElem (by have := har2.len; omega)];rfl
    have hxr : ap wr Ba (.slice XA tm xc) (arows.getD k []) := by have := har2.each k hlt; rw [hxv] at this; exact this
    have hfa := Fr.a1 wr (.cells #[.slice XA tm xc] 99);have HG := Hd (kJ 86 #[.pointer (some ⟨w.heap.size,0,none⟩),.pointer (some ⟨wr.heap.size,0,none⟩)] tb m vc B V vr vals (rows0 ++ (arows.take k).map (aJ pf m)) ss (aJ pf m (arows.getD k [])) (wr.alloc (.cells #[.slice XA tm xc] 99)) hss (kx _ _ _)
     (fun j hj => by
      rw [fc pf m _ hj];exact oP _ _ _ (fun q hq => HLO.out k hlt q jj) (fun h => by rw [hxl]; exact HPL.out j hj h))
     hm (by simp; omega) (by simp; omega) nj
     (fun w2 j hj hf2 => by
      have hf3 : Fr (fun j => wr.heap.size + 1 ≤ j) (wr.alloc (.cells #[.slice XA tm xc] 99)) w2 := hf2.mono (fun q hq h => by simp at h; omega);rw [fc pf m _ hj];refine tU (ss.getD j ByteArray.empty) w.heap.size wr.heap.size tm tvc arows.length cR xc Bt Ba (pf j).1 TV (some ⟨ag,0,none⟩) XA ts (arows.getD k []) (pf j).2 w2 ht (HPF.out j hj) hxl ?_ ?_ ?_ ?_
      · exact (hblk.fr hfa id).fr hf3 (fun h => by omega)
      · exact (Blk.new wr 99 #[.slice XA tm xc]).fr hf3 (fun h => by omega)
      · exact aa (aa htv2 hfa ii) hf3 (fun q hq h => by have := HTL.out q hq; omega)
      · exact aa (aa hxr hfa ii) hf3 (fun q hq h => by have := (hxr.lt q hq).2; omega))
     (hi.tab.fr hfa id) (aa hv2 hfa ii) (hi.rows.frF hfa))
    have HTK := Hd (show rows0 ++ (arows.take (k + 1)).map (aJ pf m) = (rows0 ++ (arows.take k).map (aJ pf m)) ++ [aJ pf m (arows.getD k [])] by
     rw [List.take_add_one,List.getD_eq_getElem?_getD,List.getElem?_eq_getElem hlt,List.map_append,List.append_assoc]; rfl)
    have HFA := Hd hfa;clear hblk hv2 htv2 har2 hxr hfa hi hvN htN hrN heN hne hxv;go_wp2_with fail;refine HG.mono ?_;rintro e w3 ⟨rfl,vr',vals',hb3,hr3,hf3,hnew,_,_⟩;have HI3 := Hd (show xP vr0 w1 w3 (w.heap.size + 1) B tb m vc V vr' vals' (rows0 ++ (arows.take (k + 1)).map (aJ pf m)) from
     ⟨hb3,by rw [HTK.out]; exact hr3,fun j hj => by
      rcases hnew j hj with h | h
      · exact HI.new j h
      · simp at h; exact .inl jj,
      (HI.fr.trans HFA.out uu).trans hf3 (fun j hj h => h.elim .inl (fun h => .inr (HI.new j h)))⟩)
    clear hb3 hr3 hf3 hnew;go_wp2_with fail;go_roundw
    case rel => exact ⟨k + 1,vr',vals',by go_num,by omega,HI3⟩
    case measure => simp only [intOf]; omega
  · have hlt' : ¬ (k : Int) < (arows.length : Int) := jj;have HTK := Hd (show arows.take k = arows from List.take_of_length_le jj);have HFF := Hd ((HF0.mono (T := fun j => j = tb ∨ vr0.ownBlock = some j) uu).trans hi.fr (fun j hj h => h.elim .inl (fun h => h.elim (fun h => by omega) .inr)));clear hblk hv2 htv2 har2 hi hvN htN hrN heN hne;go_wp2_with fail
    go_end0;exact ⟨rfl,vr,vals,HI.tab,by have h := HI.rows; rw [HTK.out] at h; exact h,HFF⟩
theorem xR (pA pB : Nat → Nat × Bool) (ma ca mb cb mC Ba Bb Bra Brb : Nat) (VA VB : Option Addr) (vra vrb : Value) (valsa valsb : List Value) (sa sb sc : List ByteArray) (ra rb : List (List Int)) (w : World) (hsc : fk sa sb = sc) (hlc : sc.length = mC) (hla : sa.length = ma) (hlb : sb.length = mb) (h0 : 0 < ma + mb) (h9 : ma + mb ≤ 9) (h9c : mC ≤ 9)
    (hpA : ∀ k,k < mC → gR sa (sc.getD k ByteArray.empty) (pA k).1 (pA k).2) (hlA : ∀ k,k < mC → (pA k).2 = true → (pA k).1 < ma) (hpB : ∀ k,k < mC → gR sb (sc.getD k ByteArray.empty) (pB k).1 (pB k).2) (hlB : ∀ k,k < mC → (pB k).2 = true → (pB k).1 < mb)
    (hra : jG ma ra) (hrb : jG mb rb) (hn : ra.length + rb.length ≤ 4096)
    (hA : w.ownsRow Ba 9 1 (.slice VA ma ca) ma (sa.map .string)) (hBv : w.ownsRow Bb 9 1 (.slice VB mb cb) mb (sb.map .string)) (hRA : ak w Bra vra valsa ra) (hRB : ak w Brb vrb valsb rb) :
    Calls prog 132 #[.agg #[.slice VA ma ca,vra],.agg #[.slice VB mb cb,vrb]] w (aQ w mC sc (ra.map (aJ pA mC) ++ rb.map (aJ pB mC))) := by
 obtain ⟨AA,caa,hva⟩ := ad hRA.own;subst hva;obtain ⟨AB,cab,hvb⟩ := ad hRB.own;subst hvb;obtain ⟨w0,hw0⟩ : ∃ w0,w0 = ((w.alloc (.cells #[.slice VA ma ca,.slice AA ra.length caa] 47)).alloc (.cells #[.slice VB mb cb,.slice AB rb.length cab] 47)).alloc (.cells #[.slice none 0 0,.slice none 0 0] 47) := ⟨_,rfl⟩;have hf : Fr (fun _ => False) w w0 := by rw [hw0]; exact (((Fr.refl _ w).alloc _).alloc _).alloc _
 have e1 := al1 w (.cells #[.slice VA ma ca,.slice AA ra.length caa] 47);have e2 := al2 w (.cells #[.slice VA ma ca,.slice AA ra.length caa] 47) (.cells #[.slice VB mb cb,.slice AB rb.length cab] 47);have b1 : Blk w0 w.heap.size 47 #[.slice VA ma ca,.slice AA ra.length caa] := by rw [hw0]; exact ((Blk.new w 47 _).alloc _).alloc _
 have b2 : Blk w0 (w.heap.size + 1) 47 #[.slice VB mb cb,.slice AB rb.length cab] := by rw [hw0,← e1]; exact (Blk.new _ 47 _).alloc _
 have b3 : Blk w0 (w.heap.size + 1 + 1) 47 #[.slice none 0 0,.slice none 0 0] := by rw [hw0,← e2]; exact Blk.new _ 47 _
 have hz0 : w0.heap.size = w.heap.size + 3 := by rw [hw0]; simp
 have hg0 := Fr.a1 w0 (.cells #[.slice VA ma ca,.slice VB mb cb] 31);have hcat := (nP w0.heap.size ma ca mb cb Ba Bb VA VB sa sb (w0.alloc (.cells #[.slice VA ma ca,.slice VB mb cb] 31)) (Blk.new w0 31 _) (aa hA (hf.trans' hg0) ii) (aa hBv (hf.trans' hg0) ii) h0 jj);rw [show w0.heap.size = w.heap.size + 1 + 1 + 1 from hz0] at hcat;have HCAT := Hd hcat;have HV := Hd (fun g c B W (h : W.ownsRow B 9 1 (.slice (some ⟨g,0,none⟩) (ma + mb) c) (ma + mb) ((sa ++ sb).map .string)) => nJ g (ma + mb) c (sa ++ sb) W h0 h9 (fun j hj => bL h j hj) (by rw [List.length_append,hla,hlb]));have hsc' : ded (df (sa ++ sb)) = sc := hsc;rw [hsc',hlc] at HV;unfold eK at HCAT HV;have HF := Hd hf;have HB1 := Hd b1;have HB2 := Hd b2;have HB3 := Hd b3;have HW := Hd hw0;have HZ := Hd hz0;have HAS1 := Hd (fun tb vc B V W hB htb hv (hW : Fr (fun _ => False) w W) => xQ pA tb mC vc ma ca Bra Ba B V VA sa sc (.slice AA ra.length caa) (.slice none 0 0) valsa [] ra [] W jj jj hlc hla hpA hlA (fun i hi => (hra i hi).1) (fun i hi k hk => (hra i hi).2 k hk) (by simp; omega) hB htb ⟨World.ownsRow_nil _ _ _ _,fun i hi => absurd hi (by simp)⟩ (fun j _ h => by cases h) hv (aa hA hW ii) (hRA.frF hW));have HAS2 := Hd (fun tb vc B V vr0 vals0 W hB htb hr0 hfar hv (hW : Fr (fun _ => False) w W) => xQ pB tb mC vc mb cb Brb Bb B V VB sb sc (.slice AB rb.length cab) vr0 valsb vals0 rb (ra.map (aJ pA mC)) W jj jj hlc hlb hpB hlB (fun i hi => (hrb i hi).1) (fun i hi k hk => (hrb i hi).2 k hk) (by simp; omega) hB htb hr0 hfar hv (aa hBv hW ii) (hRB.frF hW));unfold uh at HAS1 HAS2;rw [List.nil_append] at HAS1;have HRBL := Hd (fun j h => cU hRB.own (k := j) h);generalize rb.map (aJ pB mC) = rb2 at *;generalize ra.map (aJ pA mC) = ra2 at *;clear hcat hA hBv hRA hRB hra hrb hpA hpB hlA hlB b1 b2 b3 e1 e2 hf hw0 hg0 hsc hsc' hla hlb hlc;go_enter func132,ntmps132;go_wp2_with fail;rw [← HW.out];have hz0 := HZ.out;refine HCAT.mono ?_;rintro e w1 ⟨V,c,rfl,hrow1,hf1⟩;obtain ⟨g1,rfl,_,_,_⟩ := ar hrow1 h0;have F1 : Fr (fun _ => False) w0 w1 := ((Fr.refl (fun _ => False) w0).alloc _).trans' hf1;have HR1 := Hd hrow1;have HF1 := Hd F1;have hsz1 := F1.size;clear hrow1 hf1 F1;go_wp2_with fail;refine (HV.out g1 c _ w1 HR1).mono ?_;rintro e w2 ⟨OV,oc,rfl,hrow2,hf2⟩;have HF2 := Hd (HF1.trans' hf2);have hsz2 := hf2.size;have F3 : Fr (fun _ => False) w0 (w2.alloc (.cells #[.slice OV mC oc,.slice none 0 0] 47)) := HF2.alloc _;have HO3 := Hd (Blk.new w2 47 #[.slice OV mC oc,.slice none 0 0]);have HV3 := Hd (show (w2.alloc (.cells #[.slice OV mC oc,.slice none 0 0] 47)).ownsRow w1.heap.size 9 1 (.slice OV mC oc) mC (sc.map .string) from hrow2.alloc _);have HF3 := Hd F3;have p0 := (HB1.fr F3 id).c0;have p1 := (HB1.fr F3 id).c1;have hlt1 : w.heap.size < w2.heap.size := jj;have hob : w.heap.size + 1 + 1 < w2.heap.size := jj;have hB0 : w.heap.size ≤ w1.heap.size := jj;clear hrow2 hf2 F3;go_wp2_with fail
 have hB13 : w1.heap.size ≤ (w2.alloc (.cells #[.slice OV mC oc,.slice none 0 0] 47)).heap.size := by simp; omega
 generalize (w2.alloc (.cells #[.slice OV mC oc,.slice none 0 0] 47)) = w3 at *;refine (HAS1.out w2.heap.size oc w1.heap.size OV w3 hB13 HO3.out HV3 (HF.trans' HF3)).mono ?_;rintro e w4 ⟨rfl,vr4,vals4,hb4,hr4,hf4⟩;have F4 : Fr (fun j => j = w2.heap.size) w3 w4 := hf4.mono (fun j _ h => h.elim id (fun h => by cases h));have F04 : Fr (fun _ => False) w0 w4 := HF3.trans F4 (fun j hj e => by omega);have HV4 := Hd (aa HV3.out F4 (fun j hj e => ac HV3.out HO3.out de (by rw [hj,e])));have q0 := (HB2.fr F04 id).c0;have q1 := (HB2.fr F04 id).c1;have HF4 := Hd F04;have HO4 := Hd hb4;have HR4 := Hd hr4;have hsz4 := F4.size;clear hb4 hr4 hf4 F4 F04 p0 p1;go_wp2_with fail;refine (HAS2.out w2.heap.size oc w1.heap.size OV vr4 vals4 w4 jj HO4.out HR4 (fun j hj hj2 => by have := HRBL.out j hj; have := bs HR4.own hj2; omega) HV4 (HF.trans' HF4)).mono ?_;rintro e w5 ⟨rfl,vr5,vals5,hb5,hr5,hf5⟩;have F05 : Fr (fun _ => False) w0 w5 := HF4.trans hf5 (fun j hj e => e.elim (by omega) (fun e => by have := bs HR4.own e; omega));have hv5 := aa HV4.out hf5 (fun j hj e => e.elim (fun e => ac HV4.out HO4.out de (by rw [hj,e])) (fun e => aw HV4.out HR4.own de hj e));obtain ⟨OA,oac,hor⟩ := ad hr5.own;subst hor;have t0 := hb5.c0;have t1 := hb5.c1;have hbs := HB3.fr F05 id;have f0 := hbs.frozen 0;have cc0 := hbs.c0;have hlb := hbs.lt;have HEND := Hd (di hbs (by omega : w.heap.size ≤ w1.heap.size) hv5 hr5 (HF.trans' F05) jj);generalize ra2 ++ rb2 = R0 at *;have cc1 := HEND.1;have f12 := HEND.2.1;clear hbs hv5 hr5 hf5 hb5 F05;go_wp2_with fail;exact bodyPost_ret (v := .agg #[.slice OV mC oc,.slice OA R0.length oac]) (results_cell_row rfl _ _ (w.heap.size + 1 + 1) 47 _ (0,0) _ rfl HEND.2.2.2.1 underlying47 rfl kr) rfl HEND.2.2.2.2
def dI (idx : Nat → Nat) (m : Nat) (xs : List Int) : List Int := (List.range m).map fun k => xs.getD (idx k) 0
theorem vJ (idx : Nat → Nat) (m : Nat) (xs : List Int) : (dI idx m xs).length = m := by unfold dI; simp
theorem nQ (idx : Nat → Nat) (m : Nat) (xs : List Int) {k : Nat} (h : k < m) : (dI idx m xs).getD k 0 = xs.getD (idx k) 0 := by
 unfold dI;rw [List.getD_eq_getElem?_getD,List.getElem?_map,List.getElem?_range h];rfl
theorem AU (nb rb m c B B2 rc : Nat) (N R : Option Addr) (ss : List ByteArray) (xs : List Int) (k : Nat) (x : ByteArray) (w : World) (hl : ss.length = m) (hx : xs.length = m) (hk : k < m) (hm9 : m ≤ 9) (hxk : ss.getD k ByteArray.empty = x)
    (hd : ∀ j,j < k → ss.getD j ByteArray.empty ≠ x)
    (hn : Blk w nb 31 #[.slice N m c]) (hb : Blk w rb 99 #[.slice R m rc])
    (hs : w.ownsRow B 9 1 (.slice N m c) m (ss.map .string)) (hi : ap w B2 (.slice R m rc) xs) :
    Calls prog 279 #[.string x,.pointer (some ⟨nb,0,none⟩),.pointer (some ⟨rb,0,none⟩)] w fun e w' => e = .returned (.int .i64 (xs.getD k 0)) ∧ w' = w := by
 obtain ⟨g,rfl,_,_,_⟩ := ar hs jj;have hi2 := hi;unfold ap at hi2;rw [hx] at hi2;obtain ⟨rg,rfl,_,_,_⟩ := ar hi2 jj;clear hi2;have hcall := Tryz.slices_Index_string g 0 m c ss x w jj jj (uV hs);rw [Lib.idxOfS_hit ss m k _ hk jj hxk hd] at hcall;have HC := Hd hcall;have hcell := eI hi k jj;have b0 := hn.cell 0;have b1 := hb.cell 0;simp only [List.getElem?_toArray,List.getElem?_cons_zero] at b0 b1;have hk' : (k : Int) < (m : Int) := jj;generalize xs.getD k 0 = y at *;clear hcall hs hi hn hb hd hxk;go_enter func279,ntmps279;go_wp2_with fail;refine HC.mono ?_;rintro e w1 ⟨rfl,rfl⟩;go_wp2_with fail;go_ret;exact ⟨rfl,rfl⟩
theorem sH (idx : Nat → Nat) (m0 m c B B2 : Nat) (N : Option Addr) (vr0 : Value) (vals0 : List Value) (ns ss : List ByteArray) (rows : List (List Int)) (w : World) (hm9 : m0 ≤ 9) (hmm : m ≤ 9) (hl : ns.length = m0) (hsl : ss.length = m)
    (hvars : ∀ w1,w1.ownsRow B 9 1 (.slice N m0 c) m0 (ns.map .string) → Calls prog 34 #[.slice N m0 c] w1 (eK w1 m ss))
    (hix : ∀ k,k < m → idx k < m0 ∧ ns.getD (idx k) ByteArray.empty = ss.getD k ByteArray.empty ∧ ∀ j,j < idx k → ns.getD j ByteArray.empty ≠ ss.getD k ByteArray.empty)
    (hlen : ∀ i,i < rows.length → (rows.getD i []).length = m0) (hm : ∀ i,i < rows.length → ∀ k,k < m0 → -1 ≤ (rows.getD i []).getD k 0) (hn : rows.length ≤ 4096)
    (hs : w.ownsRow B 9 1 (.slice N m0 c) m0 (ns.map .string)) (hr : ak w B2 vr0 vals0 rows) :
    Calls prog 232 #[.slice N m0 c,vr0] w (aQ w m ss (rows.map (dI idx m))) := by
 obtain ⟨A0,c0,hvt⟩ := ad hr.own;subst hvt;have HV := Hd hvars;have HIX := Hd hix;have HS := Hd hs;have HR := Hd hr;have HLEN := Hd hlen;have HM := Hd hm;clear hs hr hlen hm hvars hix;go_enter func232,ntmps232;go_wp2_with fail;refine (HV _ ((HS.alloc _).alloc _)).mono ?_;rintro e w1 ⟨V,vc,rfl,hrow1,hf1⟩;have hb0 := Blk.new w 31 #[.slice N m0 c];have hb1 := Blk.new (w.alloc (.cells #[.slice N m0 c] 31)) 47 #[.slice none 0 0,.slice none 0 0];have hz := al1 w (.cells #[.slice N m0 c] 31);have hz2 := k7 w (.cells #[.slice N m0 c] 31) (.cells #[.slice none 0 0,.slice none 0 0] 47);rw [hz] at hb1;have hsz1 := hf1.size;rw [hz2] at hrow1 hsz1;have F1 : Fr (fun j => w.heap.size ≤ j) w (w1.alloc (.cells #[.slice V m vc,.slice none 0 0] 47)) := (((((Fr.refl _ w).alloc _).alloc _).trans hf1 uu)).alloc _;have START := Hd (show ∃ (k : Nat) (vr : Value) (vals : List Value),Value.int .i64 0 = .int .i64 (k : Int) ∧ k ≤ rows.length ∧ Blk (w1.alloc (.cells #[.slice V m vc,.slice none 0 0] 47)) w.heap.size 31 #[.slice N m0 c] ∧ Blk (w1.alloc (.cells #[.slice V m vc,.slice none 0 0] 47)) w1.heap.size 47 #[.slice V m vc,vr] ∧ Blk (w1.alloc (.cells #[.slice V m vc,.slice none 0 0] 47)) (w.heap.size + 1) 47 #[.slice none 0 0,.slice none 0 0] ∧ (w1.alloc (.cells #[.slice V m vc,.slice none 0 0] 47)).ownsRow w.heap.size 9 1 (.slice V m vc) m (ss.map .string) ∧ ak (w1.alloc (.cells #[.slice V m vc,.slice none 0 0] 47)) w.heap.size vr vals ((rows.map (dI idx m)).take k) ∧ Fr (fun j => w.heap.size ≤ j) w (w1.alloc (.cells #[.slice V m vc,.slice none 0 0] 47)) from
  ⟨0,.slice none 0 0,[],rfl,Nat.zero_le _,((hb0.alloc _).fr hf1 id).alloc _,Blk.new _ _ _,(hb1.fr hf1 id).alloc _,(ai hrow1 jj).alloc _,⟨World.ownsRow_nil _ _ _ _,fun i hi => absurd hi (by simp)⟩,F1⟩)
 clear hb0 hb1 F1 hrow1 hf1 hz hz2;go_wp2_with fail
 go_loopw [7,13] (fun _ iv wr => ∃ (k : Nat) (vr : Value) (vals : List Value),iv = .int .i64 (k : Int) ∧ k ≤ rows.length ∧ Blk wr w.heap.size 31 #[.slice N m0 c] ∧ Blk wr w1.heap.size 47 #[.slice V m vc,vr] ∧ Blk wr (w.heap.size + 1) 47 #[.slice none 0 0,.slice none 0 0] ∧ wr.ownsRow w.heap.size 9 1 (.slice V m vc) m (ss.map .string) ∧ ak wr w.heap.size vr vals ((rows.map (dI idx m)).take k) ∧ Fr (fun j => w.heap.size ≤ j) w wr) (fun _ iv _ => rows.length - (intOf iv).toNat)
 case atStart => exact START.out
 case round =>
  obtain ⟨k,vr,vals,rfl,hk,hnb,htb,hcb,hvr,hra,hf⟩ := hrel;have hszw := hf.size;have HNB := Hd hnb;have HTB := Hd htb;have HCB := Hd hcb;have HVR := Hd hvr;have HRA := Hd hra;have HF := Hd hf;have hrr := HR.fr hf (fun j hj h => absurd (HR.own.lt j hj).2 jj) (fun i hi j hj h => absurd ((HR.each i hi).lt j hj).2 jj);have HSW := Hd (aa HS.out hf (fun j hj h => absurd (HS.lt j hj).2 jj));clear hnb hcb hvr hra hf;by_cases hlt : k < rows.length
  · have hlt' : (k : Int) < (rows.length : Int) := jj;obtain ⟨ga,rfl,_,_,_⟩ := ar hrr.own jj;have hck : wr.cell? ⟨ga,k,none⟩ = some (vals0.getD k undef) := by
     rw [World.ownsRow.cellAt hrr.own k jj,List.getD_eq_getElem?_getD,List.getElem?_eq_getElem (by have := hrr.len; omega)]; rfl
    have hek := hrr.each k hlt;obtain ⟨R,rc,hvk⟩ := ad hek;rw [hvk] at hck hek;rw [HLEN.out k hlt] at hck hek;have HEK := Hd hek;have HT := Hd (show (rows.map (dI idx m)).take (k + 1) = (rows.map (dI idx m)).take k ++ [dI idx m (rows.getD k [])] by rw [List.take_add_one,List.getElem?_map,List.getD_eq_getElem?_getD,List.getElem?_eq_getElem jj]; rfl);have HROW := Hd (fun wy (hy : wy = wr.alloc (.cells #[.slice R m0 rc] 99)) => kJ 279 #[.pointer (some ⟨w.heap.size,0,none⟩),.pointer (some ⟨wr.heap.size,0,none⟩)] w1.heap.size m vc w.heap.size V vr vals ((rows.map (dI idx m)).take k) ss (dI idx m (rows.getD k [])) wy hsl (vJ idx m _) (fun k2 hk2 => by rw [nQ idx m _ hk2]; exact HM.out k hlt _ (HIX.out k2 hk2).1) jj (by rw [hy]; simp; omega) (by simp; omega) (fun _ _ => rfl)
     (fun w9 k2 hk2 hf9 => by
      have h2 := HIX.out k2 hk2;have hz9 : wy.heap.size = wr.heap.size + 1 := by rw [hy]; simp
      have hnl := HNB.lt;rw [nQ idx m _ hk2];refine (AU w.heap.size wr.heap.size m0 c B B2 rc N (R) ns (rows.getD k []) (idx k2) (ss.getD k2 ByteArray.empty) w9 hl (HLEN.out k hlt) h2.1 hm9 h2.2.1 h2.2.2 ((show Blk wy w.heap.size 31 #[.slice N m0 c] by rw [hy]; exact HNB.alloc _).fr hf9 (by omega)) ((show Blk wy wr.heap.size 99 #[.slice R m0 rc] by rw [hy]; exact Blk.new _ _ _).fr hf9 (by omega))
       (aa (show wy.ownsRow B 9 1 (.slice N m0 c) m0 (ns.map .string) by rw [hy]; exact HSW.alloc _) hf9 (fun j hj e => by have := cU HSW.out hj; omega)) (aa (show ap wy B2 (.slice R m0 rc) (rows.getD k []) by rw [hy]; exact HEK.alloc _) hf9 (fun j hj e => by have := cU HEK.out hj; omega))).mono ?_
      rintro e w10 ⟨rfl,rfl⟩;exact ⟨rfl,Fr.refl _ _⟩)
     (by rw [hy]; exact HTB.alloc _) (by rw [hy]; exact HVR.alloc _) (by rw [hy]; exact HRA.frF ((Fr.refl _ _).alloc _)))
    clear hrr hek htb;go_wp2_with fail;refine (HROW _ rfl).mono ?_;rintro e w2 ⟨rfl,vr2,vals2,hb2,hr2,hf2,ho2,hk2,hv2⟩;have F2 : Fr (fun j => j = w1.heap.size ∨ vr.ownBlock = some j) wr w2 := ((Fr.refl _ wr).alloc _).trans hf2 ii;have hra := HRA.out;have htb := HTB.out;have N2 : Blk w2 w.heap.size 31 #[.slice N m0 c] := HNB.fr F2 (fun h => h.elim (fun h => by omega) (fun h => ac hra.own HNB.out de h));have C2 : Blk w2 (w.heap.size + 1) 47 #[.slice none 0 0,.slice none 0 0] := HCB.fr F2 (fun h => h.elim (fun h => by omega) (fun h => ac hra.own HCB.out de h));have V2 := aa HVR.out F2 (fun j hj h => h.elim (fun h => ac HVR.out HTB.out de (by rw [hj,h])) (fun h => aw hra.own HVR.out de h hj));have F3 : Fr (fun j => w.heap.size ≤ j) w w2 := HF.trans F2 (fun j _ h => h.elim (fun h => by omega) (fun h => (hra.own.lt j h).1));rw [← HT.out] at hr2;have NEXT := Hd (show ∃ (k' : Nat) (vr : Value) (vals : List Value),Value.int .i64 ((k : Int) + 1) = .int .i64 (k' : Int) ∧ k' ≤ rows.length ∧ Blk w2 w.heap.size 31 #[.slice N m0 c] ∧ Blk w2 w1.heap.size 47 #[.slice V m vc,vr] ∧ Blk w2 (w.heap.size + 1) 47 #[.slice none 0 0,.slice none 0 0] ∧ w2.ownsRow w.heap.size 9 1 (.slice V m vc) m (ss.map .string) ∧ ak w2 w.heap.size vr vals ((rows.map (dI idx m)).take k') ∧ Fr (fun j => w.heap.size ≤ j) w w2 from
     ⟨k + 1,vr2,vals2,by go_num,hlt,N2,hb2,C2,V2,hr2,F3⟩)
    clear F2 hra htb N2 C2 V2 F3 hr2 hb2 hf2 ho2 hk2 hv2;go_wp2_with fail;go_roundw
    case rel => exact NEXT.out
    case measure => simp [intOf]; omega
  · have hlt' : ¬ (k : Int) < (rows.length : Int) := jj;have hkn : k = rows.length := jj;subst hkn;rw [List.take_of_length_le (by simp)] at HRA;obtain ⟨R2,hR2⟩ : ∃ R2,R2 = rows.map (dI idx m) := ⟨_,rfl⟩;rw [← hR2] at HRA ⊢;obtain ⟨Ar,cr,hvr⟩ := ad HRA.own;subst hvr;have t0 := HTB.c0;have t1 := HTB.c1;have f0 := HCB.frozen 0;have cc0 := HCB.c0;have hb2 := HCB.set_ 0 (.slice V m vc);have cc1 := hb2.c1;have f12 : (wr.setCell ⟨w.heap.size + 1,0,none⟩ (.slice V m vc)).frozen? ⟨w.heap.size + 1,1,none⟩ = false := hb2.frozen 1;have hb3 : Blk ((wr.setCell ⟨w.heap.size + 1,0,none⟩ (.slice V m vc)).setCell ⟨w.heap.size + 1,1,none⟩ (.slice Ar R2.length cr)) (w.heap.size + 1) 47 #[.slice V m vc,.slice Ar R2.length cr] := hb2.set_ 1 (.slice Ar R2.length cr);have FS : Fr (fun j => j = w.heap.size + 1) wr ((wr.setCell ⟨w.heap.size + 1,0,none⟩ (.slice V m vc)).setCell ⟨w.heap.size + 1,1,none⟩ (.slice Ar R2.length cr)) := ((Fr.refl (fun j => j = w.heap.size + 1) wr).setCell ⟨w.heap.size + 1,0,none⟩ (fun _ => rfl) _).setCell ⟨w.heap.size + 1,1,none⟩ (fun _ => rfl) _;have HB3 := Hd hb3;have HRA3 := Hd (HRA.frB HCB.out de de FS);have HVR3 := Hd (aa HVR.out FS (fun j hj e => ac HVR.out HCB.out de (by rw [hj,e])));have HF3 := Hd ((HF.trans FS (fun j _ h => by omega)).shut (Nat.le_refl _));have HR2 := Hd hR2;clear hrr htb hb2 hb3 FS hR2;go_wp2_with fail;exact bodyPost_ret (v := .agg #[.slice V m vc,.slice Ar R2.length cr]) (results_cell_row rfl _ _ (w.heap.size + 1) 47 _ (0,0) _ rfl HB3.out underlying47 rfl kr) rfl ⟨_,rfl,⟨V,vc,.slice Ar R2.length cr,vals,rfl,HVR3,by rw [← HR2.out]; exact HRA3⟩,HF3⟩
structure EvC (w : World) (eb db sb : Nat) (ma : Option Nat) (Bd rd : Nat) (vt : Value) (ts : List Tm) (room : Int) (Bs : Nat) (rs : Nat → Value) (ls : Nat → List Edge) (sroom : Int) : Prop where
 ev : EvB w eb db sb ma 0
 dict : aU w Bd db rd vt ts room
 st : br w sb Bs rs ls sroom
 pl : Pl w
 ch : Ch w
theorem EvC.fr {eb db sb : Nat} {ma : Option Nat} {Bd rd : Nat} {vt : Value} {ts : List Tm} {room : Int} {Bs : Nat} {rs : Nat → Value} {ls : Nat → List Edge} {sroom : Int} (h : EvC w eb db sb ma Bd rd vt ts room Bs rs ls sroom) (hf : Fr (fun _ => False) w w') : EvC w' eb db sb ma Bd rd vt ts room Bs rs ls sroom :=
 ⟨Blk.fr h.ev hf id,h.dict.frF hf,h.st.fr hf,h.pl.fr hf id,h.ch.fr hf id⟩
abbrev fromV (db sb : Nat) (ma : Option Nat) : Value := .func (.func 27) #[.agg #[.pointer (some ⟨db,0,none⟩),.pointer (some ⟨sb,0,none⟩),.map ma]] #[]
noncomputable def py (ts : List Tm) (ls : Nat → List Edge) (u : ByteArray) : List Edge := if eH ts (.iri u) = 0 then aT ls (dM ts (.iri u)) else []
theorem qP (h : ap w B v r) (hb : Blk w g 99 #[v]) (hg : B ≤ g) : ak w B (.slice (some ⟨g,0,none⟩) 1 1) [v] [r] := by
 refine ⟨⟨rfl,.inr ⟨g,1,#[v],rfl,hg,hb,Nat.le_refl _,by decide,rfl,rfl⟩⟩,fun i hi => ?_⟩;have : i = 0 := by simpa using hi
 subst this;exact h
theorem ui {a b : Int} (hb : Blk w g 3 #[.int .i64 a,.int .i64 b]) (hg : B ≤ g) : ap w B (.slice (some ⟨g,0,none⟩) 2 2) [a,b] :=
 ⟨rfl,.inr ⟨g,2,_,rfl,hg,hb,Nat.le_refl _,by decide,rfl,rfl⟩⟩
theorem nR : ∀ (l : List Edge) (k : Nat) (e : Edge),l[k]? = some e → (dX l)[k * 4]? = some (.int .i64 e.1) ∧ (dX l)[k * 4 + 1]? = some (.int .i64 e.2.1) ∧ (dX l)[k * 4 + 2]? = some (.int .i64 e.2.2) ∧ (dX l)[k * 4 + 3]? = some (.int .i64 1)
 | [],k,e,h => by simp at h
 | a :: l,0,e,h => by
  simp at h;subst h;exact ⟨rfl,rfl,rfl,rfl⟩
 | a :: l,k + 1,e,h => by
  have ih := nR l k e (by simpa using h);have e4 : (k + 1) * 4 = k * 4 + 1 + 1 + 1 + 1 := jj;rw [e4];exact ih
theorem kB {c : Nat} {l : List Edge} {k : Nat} {e : Edge} (h : w.ownsRow B 165 4 (.slice (some ⟨g,0,none⟩) l.length c) l.length (dX l)) (hk : l[k]? = some e) : w.cell? ⟨g,k * 4,none⟩ = some (.int .i64 e.1) ∧ w.cell? ⟨g,k * 4 + 1,none⟩ = some (.int .i64 e.2.1) ∧ w.cell? ⟨g,k * 4 + 2,none⟩ = some (.int .i64 e.2.2) ∧ w.cell? ⟨g,k * 4 + 3,none⟩ = some (.int .i64 1) := by
 have hc := h.cells (g := g) rfl;have h4 := nR l k e hk;have a0 := hc _ _ h4.1;have a1 := hc _ _ h4.2.1;have a2 := hc _ _ h4.2.2.1;have a3 := hc _ _ h4.2.2.2;rw [Addr.add_lit] at a0 a1 a2 a3;simp only [Nat.zero_add] at a0 a1 a2 a3;exact ⟨a0,a1,a2,a3⟩
theorem qQ (E : List Edge) {i : Nat} (hi : i < E.length) : (E.map fun (k : Edge) => [k.1,k.2.2]).getD i [] = [E[i].1,E[i].2.2] := by
 rw [List.getD_eq_getElem?_getD,List.getElem?_map,List.getElem?_eq_getElem hi];rfl
def qR (n : Int) (i : Nat) : Array Value := if i = 0 then #[.int .i64 0,.int .i64 0,.int .i64 0] else if i = 1 then #[.int .i64 (-1),.int .i64 0,.int .i64 0] else if i = 2 then #[.int .i64 (-1),.int .i64 n,.int .i64 0] else #[.int .i64 (-1),.int .i64 n,.int .i64 (-1)]
theorem sI (eb db sb : Nat) (ma : Option Nat) (Bd rd : Nat) (vt : Value) (ts : List Tm) (room : Int) (Bs : Nat) (rs : Nat → Value) (ls : Nat → List Edge) (sroom : Int) (idx : Nat → Nat) (x y u : ByteArray) (ss : List ByteArray) (b : Nat) (w : World) (hC : EvC w eb db sb ma Bd rd vt ts room Bs rs ls sroom) (hs : (Tm.iri u).short) (hE : eH ts (.iri u) = 0) (hlen : (aT ls (dM ts (.iri u))).length ≤ 4096) (h0 : ∀ k ∈ aT ls (dM ts (.iri u)),0 ≤ k.1 ∧ 0 ≤ k.2.1 ∧ 0 ≤ k.2.2)
    (hn : qM w b [(x,none),(⟨#[]⟩,some u),(y,none)]) (hnm : aC [(x,none),(⟨#[]⟩,some u),(y,none)] = [x,y]) (hi0 : Lib.idxOfS [x,y] x = 0) (hi1 : Lib.idxOfS [x,y] ⟨#[]⟩ = -1) (hi2 : Lib.idxOfS [x,y] y = 1)
    (hss : ded (df [x,y]) = ss) (hsl : ss.length = 2) (hix : ∀ k,k < 2 → idx k < 2 ∧ [x,y].getD (idx k) ByteArray.empty = ss.getD k ByteArray.empty ∧ ∀ j,j < idx k → [x,y].getD j ByteArray.empty ≠ ss.getD k ByteArray.empty) :
    Calls prog 169 #[.pointer (some ⟨eb,0,none⟩),.slice (some ⟨b,0,none⟩) 3 3,fromV db sb ma] w (aQ w 2 ss (((aT ls (dM ts (.iri u))).map fun k => [k.1,k.2.2]).map (dI idx 2))) := by
 obtain ⟨i48,hi48,hz480,hz481,hz482⟩ := info_parts jY;have hf0 := Fr.a1 w (.cells #[.slice none 0 0,.slice none 0 0] 47);have HR0 := Hd (Blk.new w 47 #[.slice none 0 0,.slice none 0 0]);have hnames := lU b [(x,none),(⟨#[]⟩,some u),(y,none)] (w.alloc (.cells #[.slice none 0 0,.slice none 0 0] 47)) (by simp) (hn.fr hf0 id);unfold j8 at hnames;rw [hnm] at hnames;have HNM := Hd hnames;have HF0 := Hd hf0;have HN := Hd hn;have HNIL := Hd (fun v W => fG eb v W);have HIRI := Hd (fun W (hW : Fr (fun _ => False) w W) => iT eb db sb ma 0 Bd rd vt ts room ⟨#[]⟩ u W (hC.fr hW).ev (hC.fr hW).dict hs);rw [hE] at HIRI;have HST := Hd (fun W (hW : Fr (fun _ => False) w W) => qJ (dM ts (.iri u)) sb Bs (some ⟨db,0,none⟩) ma rs ls sroom W (hC.fr hW).pl (hC.fr hW).ch (hC.fr hW).st jj);unfold i7 at HST;have HBD := Hd (fun V vc B k0 k1 k2 nb nc W (hv : W.ownsRow B 9 1 (.slice V 2 vc) 2 [.string x,.string y]) (hW : Fr (fun _ => False) w W) h0 h2 => De V vc B x y u k0 k1 k2 b nb nc W hv (hn.fr hW id) h0 h2 hi0 hi1 hi2);have HRP := Hd (fun bq R k c W hb => vF bq R k c W hb);have HOF := Hd (fun c B B2 N vr0 vals0 rows W h1 h2 h3 h4 h5 => sH idx 2 2 c B B2 N vr0 vals0 [x,y] ss rows W de de rfl hsl (fun w1 hw1 => by
  obtain ⟨g,rfl,_,_,_⟩ := ar hw1 de;have := nJ g 2 c [x,y] w1 de de (fun j hj => bL hw1 j hj) rfl;rw [hss,hsl] at this;exact this) hix h1 h2 h3 h4 h5)
 have HL := Hd h0;have HLEN := Hd hlen;generalize dM ts (.iri u) = n at *;generalize aT ls n = E at *;clear hf0 hn hnames hs hE hC hnm hi0 hi1 hi2 hss hsl hix h0 hlen;go_enter func169,ntmps169;go_wp2_with fail;refine HNM.out.mono ?_;rintro e w1 ⟨V,vc,rfl,hv,hf1⟩;have hv2 : w1.ownsRow (w.alloc (.cells #[.slice none 0 0,.slice none 0 0] 47)).heap.size 9 1 (.slice V 2 vc) 2 [.string x,.string y] := hv;have HV := Hd hv2;have hR1 := HR0.out.fr hf1 id;have F1 : Fr (fun _ => False) w w1 := HF0.out.trans' hf1;have HR1 := Hd hR1;have HF1 := Hd F1;clear hv hv2 hf1 hR1 F1;go_wp2_with fail;have HST0 := Hd (show Blk (w1.alloc (.cells #[.int .i64 0,.int .i64 0,.int .i64 0] 189)) w1.heap.size 189 (qR n 0) ∧ Fr (fun _ => False) w1 (w1.alloc (.cells #[.int .i64 0,.int .i64 0,.int .i64 0] 189)) from ⟨Blk.new w1 189 _,(Fr.refl _ _).alloc _⟩)
 go_loopw [23] (fun iv wr => ∃ i : Nat,iv = .int .i64 (i : Int) ∧ i ≤ 3 ∧ Blk wr w1.heap.size 189 (qR n i) ∧ Fr (fun _ => False) w1 wr) (fun iv _ => 3 - (intOf iv).toNat)
 case atStart => exact ⟨0,rfl,by decide,HST0.out.1,HST0.out.2⟩
 case round =>
  obtain ⟨i,rfl,hi,hpb,hfr⟩ := hrel;have HPB := Hd hpb;have HFR := Hd hfr;have hFw := HF1.out.trans' hfr;have HFW := Hd hFw;have hnr := HN.out.fr hFw id;have hpl := hpb.lt;clear hpb hfr hFw;obtain rfl | rfl | rfl | rfl : i = 0 ∨ i = 1 ∨ i = 2 ∨ i = 3 := jj
  · have n0 : wr.cell? ⟨b,0,none⟩ = some (.string x) := hnr.cell 0;have n1 : wr.cell? ⟨b,1,none⟩ = some .nilIface := hnr.cell 1;clear hnr;go_wp2_with fail;refine (HNIL.out x _).mono ?_;rintro e w2 ⟨rfl,hf2⟩;have hp2 := (HPB.out.alloc _).fr hf2 id;have c2 : w2.cell? ⟨w1.heap.size,0,none⟩ = some (.int .i64 0) := hp2.cell 0;have cf2 := hp2.frozen 0;have HN2 := Hd (show Blk (w2.setCell ⟨w1.heap.size,0,none⟩ (.int .i64 (-1))) w1.heap.size 189 (qR n 1) ∧ Fr (fun _ => False) w1 (w2.setCell ⟨w1.heap.size,0,none⟩ (.int .i64 (-1))) from
     ⟨hp2.set_ 0 _,((HFR.out.alloc _).trans' hf2).trans ((Fr.refl (fun j => j = w1.heap.size) w2).setCell ⟨w1.heap.size,0,none⟩ (fun _ => rfl) _) (fun j hj e => by omega)⟩)
    clear hf2 hp2;go_wp2_with fail;go_roundw
    case rel => exact ⟨1,rfl,by decide,HN2.out.1,HN2.out.2⟩
    case measure => simp [intOf]
  · have n0 : wr.cell? ⟨b,2,none⟩ = some (.string ⟨#[]⟩) := hnr.cell 2;have n1 : wr.cell? ⟨b,3,none⟩ = some (.iface 207 (.agg #[.string u])) := hnr.cell 3;clear hnr;go_wp2_with fail;refine (HIRI.out _ (HFW.out.alloc _)).mono ?_;rintro e w2 ⟨rfl,hf2⟩;have hp2 := (HPB.out.alloc _).fr hf2 id;have c2 : w2.cell? ⟨w1.heap.size,1,none⟩ = some (.int .i64 0) := hp2.cell 1;have cf2 := hp2.frozen 1;have HN2 := Hd (show Blk (w2.setCell ⟨w1.heap.size,1,none⟩ (.int .i64 (n))) w1.heap.size 189 (qR n 2) ∧ Fr (fun _ => False) w1 (w2.setCell ⟨w1.heap.size,1,none⟩ (.int .i64 (n))) from
     ⟨hp2.set_ 1 _,((HFR.out.alloc _).trans' hf2).trans ((Fr.refl (fun j => j = w1.heap.size) w2).setCell ⟨w1.heap.size,1,none⟩ (fun _ => rfl) _) (fun j hj e => by omega)⟩)
    clear hf2 hp2;go_wp2_with fail;go_roundw
    case rel => exact ⟨2,rfl,by decide,HN2.out.1,HN2.out.2⟩
    case measure => simp [intOf]
  · have n0 : wr.cell? ⟨b,4,none⟩ = some (.string y) := hnr.cell 4;have n1 : wr.cell? ⟨b,5,none⟩ = some .nilIface := hnr.cell 5;clear hnr;go_wp2_with fail;refine (HNIL.out y _).mono ?_;rintro e w2 ⟨rfl,hf2⟩;have hp2 := (HPB.out.alloc _).fr hf2 id;have c2 : w2.cell? ⟨w1.heap.size,2,none⟩ = some (.int .i64 0) := hp2.cell 2;have cf2 := hp2.frozen 2;have HN2 := Hd (show Blk (w2.setCell ⟨w1.heap.size,2,none⟩ (.int .i64 (-1))) w1.heap.size 189 (qR n 3) ∧ Fr (fun _ => False) w1 (w2.setCell ⟨w1.heap.size,2,none⟩ (.int .i64 (-1))) from
     ⟨hp2.set_ 2 _,((HFR.out.alloc _).trans' hf2).trans ((Fr.refl (fun j => j = w1.heap.size) w2).setCell ⟨w1.heap.size,2,none⟩ (fun _ => rfl) _) (fun j hj e => by omega)⟩)
    clear hf2 hp2;go_wp2_with fail;go_roundw
    case rel => exact ⟨3,rfl,by decide,HN2.out.1,HN2.out.2⟩
    case measure => simp [intOf]
  · have p0 : wr.cell? ⟨w1.heap.size,0,none⟩ = some (.int .i64 (-1)) := HPB.out.cell 0;have p1 : wr.cell? ⟨w1.heap.size,1,none⟩ = some (.int .i64 n) := HPB.out.cell 1;have p2 : wr.cell? ⟨w1.heap.size,2,none⟩ = some (.int .i64 (-1)) := HPB.out.cell 2;have HSTW := Hd (HST.out wr HFW.out);unfold lR at HSTW;clear hnr;go_wp2_with fail;refine HSTW.out.mono ?_;rintro e w2 ⟨ev,rfl,hent,hf2⟩;obtain ⟨EA,ec,hev⟩ := ad hent;subst hev;have HEN := Hd hent;have HF2 := Hd (HFW.out.trans' hf2);have HV2 := Hd (aa (aa HV.out HFR.out ii) hf2 ii);have HR2 := Hd ((HR1.out.fr HFR.out id).fr hf2 id);have hsz2 := hf2.size;have hszr := HFR.out.size;clear hent hf2 p0 p1 p2;go_wp2_with fail;obtain ⟨wo,rfl⟩ : ∃ wo,wo = wr := ⟨wr,rfl⟩
    go_loopw [9,46] (fun rv iv wq => ∃ (k : Nat) (vals : List Value),iv = .int .i64 (k : Int) ∧ k ≤ E.length ∧ ak wq w2.heap.size rv vals ((E.take k).map fun k => [k.1,k.2.2]) ∧ Fr (fun _ => False) w2 wq) (fun _ iv _ => E.length - (intOf iv).toNat)
    case atStart => exact ⟨0,[],rfl,Nat.zero_le _,⟨World.ownsRow_nil _ _ _ _,fun i hi => absurd hi (by simp)⟩,Fr.refl _ _⟩
    case round =>
     obtain ⟨k,vals,rfl,hk,hra,hfq⟩ := hrel;have HRA := Hd hra;have HFQ := Hd hfq;obtain ⟨RA,rac,hrv⟩ := ad hra.own;subst hrv;by_cases hlt : k < E.length
     · have hlt' : (k : Int) < (E.length : Int) := jj;obtain ⟨e,he⟩ : ∃ e,E[k]? = some e := ⟨_,List.getElem?_eq_getElem hlt⟩;have henq := aa HEN.out hfq ii;obtain ⟨eg,rfl,_,_,_⟩ := ar henq jj;obtain ⟨c0,c1,c2,c3⟩ := kB henq he;have HTK := Hd (show (E.take (k + 1)).map (fun k => [k.1,k.2.2]) = (E.take k).map (fun k => [k.1,k.2.2]) ++ [[e.1,e.2.2]] by rw [List.take_add_one,he,List.map_append]; rfl);obtain ⟨e0,e1,e2⟩ := e;dsimp only at c0 c1 c2 HTK;have hfa := Fr.a1 wr (.cells #[.int .i64 e0,.int .i64 e1,.int .i64 e2,.int .i64 1] 165);have HX := Hd (Blk.new wr 165 #[.int .i64 e0,.int .i64 e1,.int .i64 e2,.int .i64 1]);have HBW := Hd (HBD.out V vc _ e0 e1 e2 wr.heap.size 3 (wr.alloc (.cells #[.int .i64 e0,.int .i64 e1,.int .i64 e2,.int .i64 1] 165)) (aa (aa HV2.out hfq ii) hfa ii) ((HF2.out.trans' hfq).trans' hfa) (HX.out.cell 0) (HX.out.cell 2));have hszq := hfq.size;have HFA := Hd hfa;clear hra hfq henq he hfa;go_wp2_with fail;refine HBW.out.mono ?_;rintro e w4 ⟨X,rfl,hX,hbX,hf4⟩;have x3 : w4.cell? ⟨wr.heap.size,3,none⟩ = some (.int .i64 1) := (HX.out.fr hf4 id).cell 3;have HF4 := Hd (HFA.out.trans' hf4);have HBX := Hd hbX;have hX2 : wr.heap.size ≤ X := by simp at hX; omega
       have HRPW := Hd (HRP.out w4.heap.size (some ⟨X,0,none⟩) 2 2 (w4.alloc (.cells #[.slice (some ⟨X,0,none⟩) 2 2] 99)) (Blk.new w4 99 _));have hxl := (HX.out.fr hf4 id).lt;clear hf4 hbX hX;go_wp2_with fail;refine HRPW.out.mono ?_;rintro e w5 ⟨X5,rfl,hX5,hb5,hf5⟩;have F5 : Fr (fun _ => False) wr w5 := (HF4.out.alloc _).trans' hf5;have hra5 := HRA.out.frF F5;have hsz5 := F5.size;have hlk : ((E.take k).map (fun (k : Edge) => [k.1,k.2.2])).length = k := by simp; omega
       have hown5 := hra5.own;rw [hlk] at hown5;have hn5 : ak w5 w2.heap.size (.slice (some ⟨X5,0,none⟩) 1 1) [.slice (some ⟨X,0,none⟩) 2 2] [[e0,e2]] := qP (ui ((HBX.out.alloc _).fr hf5 id) jj) hb5 (by simp at hX5; omega);obtain ⟨v6,w6,hrun,hown6,hgr6⟩ := bu (w := w5) 45 45 99 i48 (.slice none 0 0) 1 24 underlying45 hi48 hz480 hz481 hz482 rfl de w2.heap.size k 1 w2.heap.size (.slice RA k rac) (.slice (some ⟨X5,0,none⟩) 1 1) vals [.slice (some ⟨X,0,none⟩) 2 2] (by rw [hlk] at *; exact hown5) hn5.own (by intro u hu; rw [List.mem_singleton.1 hu]; rfl) (by unfold maxLen; have := HLEN.out; omega) (by have := HLEN.out; omega) jj;have hr6 := hra5.append (w6 := w6) (v6 := v6) hn5 (Nat.le_refl _) (by rw [hlk]; exact hown6) (by rw [hlk]; exact hgr6);rw [← HTK.out] at hr6;have HR6 := Hd hr6;have HF6 := Hd ((HFQ.out.trans' F5).grown hgr6 (fun j hj e => by have := bs hown5 e; omega));clear hra5 hown5 hn5 hr6 hown6 hgr6 hb5 hf5 F5 hX5;have hk4 : k < 4096 := by have := HLEN.out; omega
       go_wp2_with (at_builtin; refine Lib.wpList_append_run _ rfl _ _ _ _ rfl _ _ rfl rfl _ _ hrun ?_);go_roundw
       case rel => exact ⟨k + 1,_,by go_num,by omega,HR6.out,HF6.out⟩
       case measure => simp [intOf]; omega
     · have hlt' : ¬ (k : Int) < (E.length : Int) := jj;have htk : E.take k = E := List.take_of_length_le jj;rw [htk] at HRA;have hel : (E.map (fun (k : Edge) => [k.1,k.2.2])).length = E.length := by simp
       have HOFW := Hd (HOF.out vc _ w2.heap.size V _ vals (E.map fun k => [k.1,k.2.2]) wr (fun i hi => by
        rw [List.length_map] at hi;rw [qQ E hi];rfl) (fun i hi q hq => by
        rw [List.length_map] at hi;have h9 := HL.out _ (List.getElem_mem hi);rw [qQ E hi];obtain rfl | rfl : q = 0 ∨ q = 1 := jj
        · simp; omega
        · simp; omega) (by rw [hel]; exact HLEN.out) (aa HV2.out hfq ii) HRA.out)
       unfold aQ at HOFW;have HFQW := Hd (HF2.out.trans' hfq);have HR3 := Hd (HR2.out.fr hfq id);have hkE : k = E.length := jj;subst hkE;obtain ⟨RR,hRR⟩ : ∃ RR,RR = (E.map fun (k : Edge) => [k.1,k.2.2]).map (dI idx 2) := ⟨_,rfl⟩;rw [hel,← hRR] at HOFW;have HRR := Hd hRR;clear hra hfq htk hRR hel;go_wp2_with fail;refine HOFW.out.mono ?_;rintro e w7 ⟨tv,rfl,⟨OV,oc,ovr,ovals,rfl,hv7,hr7⟩,hf7⟩;obtain ⟨OA,oac,hor⟩ := ad hr7.own;subst hor;have hbs := HR3.out.fr hf7 id;have f0 := hbs.frozen 0;have cc0 : w7.cell? ⟨w.heap.size,0,none⟩ = some (.slice none 0 0) := hbs.cell 0;have HEND := Hd (di hbs HFQW.out.size hv7 hr7 (HFQW.out.trans' hf7) jj);have cc1 := HEND.out.1;have f12 := HEND.out.2.1;clear hbs hv7 hr7 hf7;go_wp2_with fail;exact bodyPost_ret (v := .agg #[.slice OV 2 oc,.slice OA RR.length oac]) (results_cell_row rfl _ _ w.heap.size 47 _ (0,0) _ rfl HEND.out.2.2.2.1 underlying47 rfl kr) rfl (by rw [← HRR.out]; exact HEND.out.2.2.2.2)
theorem vK (eb db sb : Nat) (ma : Option Nat) (Bd rd : Nat) (vt : Value) (ts : List Tm) (room : Int) (Bs : Nat) (rs : Nat → Value) (ls : Nat → List Edge) (sroom : Int) (idx : Nat → Nat) (x y u : ByteArray) (ss : List ByteArray) (b : Nat) (w : World) (hC : EvC w eb db sb ma Bd rd vt ts room Bs rs ls sroom) (hs : (Tm.iri u).short) (hE : ¬ eH ts (.iri u) = 0)
    (hn : qM w b [(x,none),(⟨#[]⟩,some u),(y,none)]) (hnm : aC [(x,none),(⟨#[]⟩,some u),(y,none)] = [x,y]) (hi0 : Lib.idxOfS [x,y] x = 0) (hi1 : Lib.idxOfS [x,y] ⟨#[]⟩ = -1) (hi2 : Lib.idxOfS [x,y] y = 1)
    (hss : ded (df [x,y]) = ss) (hsl : ss.length = 2) (hix : ∀ k,k < 2 → idx k < 2 ∧ [x,y].getD (idx k) ByteArray.empty = ss.getD k ByteArray.empty ∧ ∀ j,j < idx k → [x,y].getD j ByteArray.empty ≠ ss.getD k ByteArray.empty) :
    Calls prog 169 #[.pointer (some ⟨eb,0,none⟩),.slice (some ⟨b,0,none⟩) 3 3,fromV db sb ma] w (aQ w 2 ss []) := by
 have hf0 := Fr.a1 w (.cells #[.slice none 0 0,.slice none 0 0] 47);have HR0 := Hd (Blk.new w 47 #[.slice none 0 0,.slice none 0 0]);have hnames := lU b [(x,none),(⟨#[]⟩,some u),(y,none)] (w.alloc (.cells #[.slice none 0 0,.slice none 0 0] 47)) (by simp) (hn.fr hf0 id);unfold j8 at hnames;rw [hnm] at hnames;have HNM := Hd hnames;have HF0 := Hd hf0;have HN := Hd hn;have HNIL := Hd (fun v W => fG eb v W);have HIRI := Hd (fun W (hW : Fr (fun _ => False) w W) => iT eb db sb ma 0 Bd rd vt ts room ⟨#[]⟩ u W (hC.fr hW).ev (hC.fr hW).dict hs);rw [decide_eq_false hE] at HIRI;have HOF := Hd (fun c B B2 N vr0 vals0 rows W h1 h2 h3 h4 h5 => sH idx 2 2 c B B2 N vr0 vals0 [x,y] ss rows W de de rfl hsl (fun w1 hw1 => by
  obtain ⟨g,rfl,_,_,_⟩ := ar hw1 de;have := nJ g 2 c [x,y] w1 de de (fun j hj => bL hw1 j hj) rfl;rw [hss,hsl] at this;exact this) hix h1 h2 h3 h4 h5)
 generalize dM ts (.iri u) = n at *;clear hf0 hn hnames hs hE hC hnm hi0 hi1 hi2 hss hsl hix;go_enter func169,ntmps169;go_wp2_with fail;refine HNM.out.mono ?_;rintro e w1 ⟨V,vc,rfl,hv,hf1⟩;have hv2 : w1.ownsRow (w.alloc (.cells #[.slice none 0 0,.slice none 0 0] 47)).heap.size 9 1 (.slice V 2 vc) 2 [.string x,.string y] := hv;have HV := Hd hv2;have hR1 := HR0.out.fr hf1 id;have F1 : Fr (fun _ => False) w w1 := HF0.out.trans' hf1;have HR1 := Hd hR1;have HF1 := Hd F1;clear hv hv2 hf1 hR1 F1;go_wp2_with fail;have HST0 := Hd (show Blk (w1.alloc (.cells #[.int .i64 0,.int .i64 0,.int .i64 0] 189)) w1.heap.size 189 (qR n 0) ∧ Fr (fun _ => False) w1 (w1.alloc (.cells #[.int .i64 0,.int .i64 0,.int .i64 0] 189)) from ⟨Blk.new w1 189 _,(Fr.refl _ _).alloc _⟩)
 go_loopw [23] (fun iv wr => ∃ i : Nat,iv = .int .i64 (i : Int) ∧ i ≤ 1 ∧ Blk wr w1.heap.size 189 (qR n i) ∧ Fr (fun _ => False) w1 wr) (fun iv _ => 3 - (intOf iv).toNat)
 case atStart => exact ⟨0,rfl,by decide,HST0.out.1,HST0.out.2⟩
 case round =>
  obtain ⟨i,rfl,hi,hpb,hfr⟩ := hrel;have HPB := Hd hpb;have HFR := Hd hfr;have hFw := HF1.out.trans' hfr;have HFW := Hd hFw;have hnr := HN.out.fr hFw id;clear hpb hfr hFw;obtain rfl | rfl : i = 0 ∨ i = 1 := jj
  · have n0 : wr.cell? ⟨b,0,none⟩ = some (.string x) := hnr.cell 0;have n1 : wr.cell? ⟨b,1,none⟩ = some .nilIface := hnr.cell 1;clear hnr;go_wp2_with fail;refine (HNIL.out x _).mono ?_;rintro e w2 ⟨rfl,hf2⟩;have hp2 := (HPB.out.alloc _).fr hf2 id;have c2 : w2.cell? ⟨w1.heap.size,0,none⟩ = some (.int .i64 0) := hp2.cell 0;have cf2 := hp2.frozen 0;have HN2 := Hd (show Blk (w2.setCell ⟨w1.heap.size,0,none⟩ (.int .i64 (-1))) w1.heap.size 189 (qR n 1) ∧ Fr (fun _ => False) w1 (w2.setCell ⟨w1.heap.size,0,none⟩ (.int .i64 (-1))) from
     ⟨hp2.set_ 0 _,((HFR.out.alloc _).trans' hf2).trans ((Fr.refl (fun j => j = w1.heap.size) w2).setCell ⟨w1.heap.size,0,none⟩ (fun _ => rfl) _) (fun j hj e => by omega)⟩)
    clear hf2 hp2;go_wp2_with fail;go_roundw
    case rel => exact ⟨1,rfl,by decide,HN2.out.1,HN2.out.2⟩
    case measure => simp [intOf]
  · have n0 : wr.cell? ⟨b,2,none⟩ = some (.string ⟨#[]⟩) := hnr.cell 2;have n1 : wr.cell? ⟨b,3,none⟩ = some (.iface 207 (.agg #[.string u])) := hnr.cell 3;clear hnr;go_wp2_with fail;refine (HIRI.out _ (HFW.out.alloc _)).mono ?_;rintro e w2 ⟨rfl,hf2⟩;have HFW2 := Hd ((HFW.out.alloc _).trans' hf2);have HR2 := Hd (((HR1.out.fr HFR.out id).alloc _).fr hf2 id);have HOFW := Hd (HOF.out vc _ w2.heap.size V (.slice none 0 0) [] [] w2 (fun i hi => absurd hi (by simp)) (fun i hi => absurd hi (by simp)) (by simp) (aa (aa HV.out HFR.out ii) (((Fr.refl (fun _ => False) wr).alloc _).trans' hf2) ii) ⟨World.ownsRow_nil _ _ _ _,fun i hi => absurd hi (by simp)⟩);unfold aQ at HOFW;clear hf2;go_wp2_with fail;refine HOFW.out.mono ?_;rintro e w7 ⟨tv,rfl,⟨OV,oc,ovr,ovals,rfl,hv7,hr7⟩,hf7⟩;obtain ⟨OA,oac,hor⟩ := ad hr7.own;subst hor;have hbs := HR2.out.fr hf7 id;have f0 := hbs.frozen 0;have cc0 : w7.cell? ⟨w.heap.size,0,none⟩ = some (.slice none 0 0) := hbs.cell 0;have HEND := Hd (di hbs HFW2.out.size hv7 hr7 (HFW2.out.trans' hf7) jj);have cc1 := HEND.out.1;have f12 := HEND.out.2.1;clear hbs hv7 hr7 hf7;go_wp2_with fail;exact bodyPost_ret (v := .agg #[.slice OV 2 oc,.slice OA ([] : List (List Int)).length oac]) (results_cell_row rfl _ _ w.heap.size 47 _ (0,0) _ rfl HEND.out.2.2.2.1 underlying47 rfl kr) rfl HEND.out.2.2.2.2
def hdL : List Int := [82,69,71,73,83,84,69,82,32,82,83,84,82,69,65,77,32,60,117,58,111,62,32,65,83,32,83,69,76,69,67,84,32,63,120,32,87,72,69,82,69,32,123,32,63,120,32]
structure dj (rs : List Int) : Prop where
 n : 47 ≤ rs.length
 pk : ∀ i,i < 47 → ah rs i = ah hdL i
theorem eT (hN : hd.length = N) (hle : N ≤ rs.length) (h : ∀ i,i < N → ah rs i = ah hd i) : ∀ (k p : Nat),N - p ≤ k → p < N → skip hd [0] p < N → skip rs [0] p = skip hd [0] p
 | 0,p,hk,hp,_ => absurd hp (by omega)
 | k + 1,p,hk,hp,hs => by
  have e : ah rs p = rs.getD p 0 := by unfold ah; rw [if_pos jj]
  have e2 : ah hd p = hd.getD p 0 := by unfold ah; rw [if_pos jj]
  have e3 : rs.getD p 0 = hd.getD p 0 := by rw [← e,← e2]; exact h p hp
  by_cases hc : [(0 : Int)].contains (cT (hd.getD p 0)) = true
  · have h1 := dQ (rs := hd) (p := p) jj hc;have h2 := dQ (rs := rs) (p := p) jj (by rw [e3]; exact hc);rw [h1] at hs ⊢;rw [h2];by_cases hp1 : p + 1 < N
    · exact eT hN hle h k (p + 1) jj hp1 hs
    · have h3 := bo (rs := hd) (cs := [0]) (p := p + 1) (fun h => by omega);omega
  · rw [bo (rs := hd) (fun h => hc h.2),bo (rs := rs) (fun h => hc (by rw [← e3]; exact h.2))]
theorem i8 {ts : List Int} (h : ∀ i,i < N → ah rs i = ah hd i) (hp : p + ts.length ≤ N) : iV rs p ts = iV hd p ts := by
 unfold iV;rw [Bool.eq_iff_iff,List.all_eq_true,List.all_eq_true];constructor
 · intro h1 i hi;have := h1 i hi;rw [h (p + i) (by have := List.mem_range.1 hi; omega)] at this;exact this
 · intro h1 i hi;have := h1 i hi;rw [h (p + i) (by have := List.mem_range.1 hi; omega)];exact this
theorem AV (H : dj rs) (p : Nat) (T : ByteArray) (hp : p < 47) (hs : skip hdL [0] p + T.size ≤ 47) (hT : 0 < T.size) : mkI rs p T = mkI hdL p T := by
 have h1 := eT (hd := hdL) (N := 47) rfl H.n H.pk 47 p jj hp jj;have h2 := i8 (ts := txt T) (p := skip hdL [0] p) (N := 47) H.pk (by rw [dA]; exact hs);unfold mkI an aj;rw [h1,h2]
theorem pz (H : dj rs) : ah rs 44 = 63 := (H.pk 44 de).trans dk
theorem EY (H : dj rs) : mkI rs 43 ⟨#[63]⟩ = 45 := (AV H 43 _ de dk de).trans dk
theorem uj (i : ByteArray) (b c p q2 : Nat) (A : Option Addr) (rs : List Int) (w : World) (hip : dU rs p q2 i) (h : Sc w b A c rs p) :
    Calls prog 47 #[.agg #[.pointer (some ⟨b,0,none⟩)]] w (aV w b A c rs q2 (.string i)) := by
 obtain ⟨hb,h1,h2,h3,rfl⟩ := hip;exact wY _ b c p _ A rs w h1 h2 h3 rfl (j1 (by rw [hb.1]; decide)) hb h
theorem kd (rs : List Int) : ∀ (m p : Nat),rs.length - p ≤ m → skip rs [0] (skip rs [0] p) = skip rs [0] p
 | 0,p,hm => by
  have h := bo (rs := rs) (cs := [0]) (p := p) (fun h => by omega);rw [h,h]
 | m + 1,p,hm => by
  by_cases hc : p < rs.length ∧ [(0 : Int)].contains (cT (rs.getD p 0)) = true
  · rw [dQ hc.1 hc.2];exact kd rs m (p + 1) jj
  · rw [bo hc,bo hc]
def Sm (rs : List Int) (p p' : Nat) : Prop := skip rs [0] p = skip rs [0] p'
theorem Sm.mark (h : Sm rs p p') (T : ByteArray) : aj rs p T = aj rs p' T ∧ (aj rs p T = true → an rs p T = an rs p' T) := by
 unfold Sm at h;have e : aj rs p T = aj rs p' T := by unfold aj; rw [h]
 exact ⟨e,fun h1 => by rw [eS h1,eS (e ▸ h1),h]⟩
theorem Sm.iri {i : ByteArray} (h : Sm rs p p') (h1 : dU rs p e i) : dU rs p' e i := by
 unfold Sm at h;unfold dU at *;rw [← h];exact h1
theorem Sm.skip : Sm rs p (skip rs [0] p) := (kd rs _ p (Nat.le_refl _)).symm
section
def Sg (w : World) : Prop := Blk w 7 447 #[.string ⟨#[]⟩,.string ⟨#[]⟩,.string ⟨#[]⟩,.string ⟨#[]⟩,.string ⟨#[42]⟩,.string ⟨#[43]⟩,.string ⟨#[126]⟩]
theorem Sg.frF (h : Sg w) (hf : Fr (fun _ => False) w w') : Sg w' := Blk.fr h hf id
theorem Sg.frB {t : Nat} (h : Sg w) (hx : Blk w x t cs) (ht : ¬ t = 447) (hf : Fr (fun j => j = x) w w') : Sg w' := Blk.fr h hf (fun e => Blk.ne_ h hx (fun e => ht e.symm) e)
theorem AW (w : World) : (Instr.index 447 (.agg #[.string ⟨#[]⟩,.string ⟨#[]⟩,.string ⟨#[]⟩,.string ⟨#[]⟩,.string ⟨#[42]⟩,.string ⟨#[43]⟩,.string ⟨#[126]⟩]) (.int .i64 0)).run prog w = .ok (.string ⟨#[]⟩) w := kr
theorem AX (w : World) : (Instr.index 447 (.agg #[.string ⟨#[]⟩,.string ⟨#[]⟩,.string ⟨#[]⟩,.string ⟨#[]⟩,.string ⟨#[42]⟩,.string ⟨#[43]⟩,.string ⟨#[126]⟩]) (.int .i64 1)).run prog w = .ok (.string ⟨#[]⟩) w := kr
theorem AY (w : World) : (Instr.index 447 (.agg #[.string ⟨#[]⟩,.string ⟨#[]⟩,.string ⟨#[]⟩,.string ⟨#[]⟩,.string ⟨#[42]⟩,.string ⟨#[43]⟩,.string ⟨#[126]⟩]) (.int .i64 2)).run prog w = .ok (.string ⟨#[]⟩) w := kr
theorem AZ (w : World) : (Instr.index 447 (.agg #[.string ⟨#[]⟩,.string ⟨#[]⟩,.string ⟨#[]⟩,.string ⟨#[]⟩,.string ⟨#[42]⟩,.string ⟨#[43]⟩,.string ⟨#[126]⟩]) (.int .i64 3)).run prog w = .ok (.string ⟨#[]⟩) w := kr
theorem A9 (w : World) : (Instr.index 447 (.agg #[.string ⟨#[]⟩,.string ⟨#[]⟩,.string ⟨#[]⟩,.string ⟨#[]⟩,.string ⟨#[42]⟩,.string ⟨#[43]⟩,.string ⟨#[126]⟩]) (.int .i64 4)).run prog w = .ok (.string ⟨#[42]⟩) w := kr
theorem Bc (w : World) : (Instr.index 447 (.agg #[.string ⟨#[]⟩,.string ⟨#[]⟩,.string ⟨#[]⟩,.string ⟨#[]⟩,.string ⟨#[42]⟩,.string ⟨#[43]⟩,.string ⟨#[126]⟩]) (.int .i64 5)).run prog w = .ok (.string ⟨#[43]⟩) w := kr
theorem Be (w : World) : (Instr.index 447 (.agg #[.string ⟨#[]⟩,.string ⟨#[]⟩,.string ⟨#[]⟩,.string ⟨#[]⟩,.string ⟨#[42]⟩,.string ⟨#[43]⟩,.string ⟨#[126]⟩]) (.int .i64 6)).run prog w = .ok (.string ⟨#[126]⟩) w := kr
attribute [local go_sem] AW AX AY AZ A9 Bc Be
theorem sJ (f : Value) (w : World) : Calls prog 347 #[.slice none 0 0,f] w fun e w' => e = .returned (.int .i64 (-1)) ∧ w = w' := by
 go_enter func347,ntmps347;go_wp2_with fail
 go_loopw [8] (fun iv wr => iv = .int .i64 0 ∧ w = wr) (fun _ _ => 0)
 case atStart => exact ⟨rfl,rfl⟩
 case round =>
  obtain ⟨rfl,rfl⟩ := hrel;go_wp2_with fail;go_ret;exact ⟨rfl,rfl⟩
theorem sK (f : Value) (w : World) : Calls prog 320 #[.slice none 0 0,f] w fun e w' => e = .returned (.bool false) ∧ w = w' := by
 have HI := Hd (sJ f w);go_enter func320,ntmps320;go_wp2_with fail;refine HI.mono ?_;rintro e w1 ⟨rfl,rfl⟩;go_wp2_with fail;go_ret;exact ⟨rfl,rfl⟩
end
structure cI (w : World) (B : Nat) (v : Value) (ts : List PT) (L : List (List Value)) : Prop where
 len : L.length = ts.length
 each : ∀ (i : Nat) t l,ts[i]? = some t → L[i]? = some l → PBt 174 w (fun j => B ≤ j ∧ v.ownBlock ≠ some j) t l
 row : w.ownsRow B 174 3 v ts.length L.flatten
theorem cI.frF (h : cI w B v ts L) (hf : Fr (fun _ => False) w w') : cI w' B v ts L :=
 ⟨h.len,fun i t l h1 h2 => (h.each i t l h1 h2).fr hf ii,aa h.row hf ii⟩
theorem cI.push {c : Nat} (h : cI w B v ts L) (ht : PBt 174 w (fun j => B ≤ j ∧ v.ownBlock ≠ some j) t l)
    (hr : w'.ownsRow B 174 3 (.slice (some ⟨g,0,none⟩) (ts.length + 1) c) (ts.length + 1) (L.flatten ++ l)) (hg : w.grownBy w' v.ownBlock) (hor : v.ownBlock = some g ∨ g = w.heap.size) : cI w' B (.slice (some ⟨g,0,none⟩) (ts.length + 1) c) (ts ++ [t]) (L ++ [l]) := by
 have hK : ∀ t l,PBt 174 w (fun j => B ≤ j ∧ v.ownBlock ≠ some j) t l → PBt 174 w' (fun j => B ≤ j ∧ (Value.slice (some ⟨g,0,none⟩) (ts.length + 1) c).ownBlock ≠ some j) t l := fun t l h => by
  have h1 := h.imp (S' := fun j => B ≤ j ∧ (Value.slice (some ⟨g,0,none⟩) (ts.length + 1) c).ownBlock ≠ some j ∧ v.ownBlock ≠ some j) (fun j hj hb => ⟨hb.1,fun e => by
   injection e with e;have e : g = j := e;rcases hor with h2 | h2
   · exact hb.2 (by rw [h2,e])
   · omega,hb.2⟩)
  refine PBt.imp (S := fun j => B ≤ j ∧ (Value.slice (some ⟨g,0,none⟩) (ts.length + 1) c).ownBlock ≠ some j ∧ v.ownBlock ≠ some j) (fun j _ hb => ⟨hb.1,hb.2.1⟩) (h1.fr (Fr.of_grown hg) fun j hb => hb.2.2)
 refine ⟨by simp [h.len],fun i t' l' h1 h2 => ?_,by simpa using hr⟩;by_cases hi : i < ts.length
 · rw [List.getElem?_append_left hi] at h1;rw [List.getElem?_append_left (by rw [h.len]; exact hi)] at h2;exact hK _ _ (h.each i t' l' h1 h2)
 · rw [List.getElem?_append_right jj] at h1;rw [List.getElem?_append_right (by rw [h.len]; omega),h.len] at h2;generalize i - ts.length = m at h1 h2;cases m with
   | zero =>
    injection h1 with h1;injection h2 with h2;rw [← h1,← h2];exact hK _ _ ht
   | succ m => cases h1
theorem cI.node {A : Option Addr} {c : Nat} (k : Int) (h : cI w B (.slice A ts.length c) ts L) : PAt 174 w B (.node k ts) [.int .i64 k,.string ⟨#[]⟩,.slice A ts.length c] :=
 .node k ts A c L h.len (fun i t l h1 h2 => (h.each i t l h1 h2).toA (fun _ hb => hb.1)) h.row
theorem xS : (prog.info? 174).map (fun i => (i.zero,i.size,i.bytes)) = some (some (.agg #[.int .i64 0,.string ⟨#[]⟩,.slice none 0 0]),3,48) := kr
theorem bj : (prog.info? 174).map (·.size) = some 3 := kr
theorem uk : ((prog.info? 174).bind (·.zero)).isSome = true := kr
abbrev Z62 : Array Value := #[.int .i64 0,.string ⟨#[]⟩,.slice none 0 0]
theorem cI.frB {t : Nat} (h : cI w B v ts L) (hx : Blk w x t cs) (ht : 174 ≠ t) (hxB : x < B) (hf : Fr (fun j => j = x) w w') : cI w' B v ts L :=
 ⟨h.len,fun i t l h1 h2 => (h.each i t l h1 h2).fr hf (fun j hj e => by have := hj.1; omega),aa h.row hf (fun k hk e => ac h.row hx ht (by rw [hk,e]))⟩
abbrev FrN (b : Nat) (w a : World) : Prop := Fr (fun j => j = b ∨ w.heap.size ≤ j) w a
theorem FrN.of (h : Fr (fun _ => False) w a) : FrN b w a := h.mono uu
theorem FrN.andF (h : FrN b w a) (h2 : Fr (fun _ => False) a c) : FrN b w c := h.trans h2 uu
theorem FrN.andB (h : FrN b w a) (h2 : Fr (fun j => j = b) a c) : FrN b w c := h.trans h2 (fun _ _ h => .inl h)
theorem FrN.andX (h : FrN b w a) (h2 : Fr (fun j => j = x) a c) (hx : w.heap.size ≤ x) : FrN b w c := h.trans h2 (fun _ hj e => absurd hj jj)
theorem FrN.andG {row : Option Nat} (h : FrN b w a) (h2 : a.grownBy c row) (hx : ∀ k,row = some k → w.heap.size ≤ k) : FrN b w c := h.trans (Fr.of_grown h2) (fun j hj e => absurd hj (by have := hx j e; omega))
theorem FrN.done (h : FrN b w a) : Fr (fun j => j = b) w a := h.mono (fun k hk h => h.elim id (fun h => absurd hk jj))
def PP (rs : List Int) (q : Nat) (t : PT) (w : World) (b : Nat) (A : Option Addr) (c : Nat) (e : Ending) (w' : World) : Prop :=
 ∃ (k : Int) (i : ByteArray) (A' : Option Addr) (n c' : Nat),e = .returned (.agg #[.int .i64 k,.string i,.slice A' n c']) ∧ PAt 174 w' w.heap.size t [.int .i64 k,.string i,.slice A' n c'] ∧ (∃ q',Sm rs q q' ∧ Sc w' b A c rs q') ∧ Fr (fun j => j = b) w w'
theorem cj (k : Int) (i : ByteArray) (A : Option Addr) (n c : Nat) : aY 3 #[.int .i64 k,.string i,.slice A n c] := ⟨rfl,EQ _ _ _ _ _⟩
inductive Rest (rs : List Int) (x : UInt8) (One : Nat → PT → Nat → Nat → Prop) : Nat → List PT → Nat → Prop
 | nil (e : Nat) : Rest rs x One e [] e
 | cons (e e1 e2 d : Nat) (t : PT) (ts : List PT) (h1 : aj rs e (mk1 x) = true) (h2 : One (an rs e (mk1 x)) t e1 d) (h3 : Rest rs x One e1 ts e2) : Rest rs x One e (t :: ts) e2
theorem Rest.snoc {x : UInt8} {e1 e2 : Nat} (h : Rest rs x One e ts e1) (h1 : aj rs e1 (mk1 x) = true) (h2 : One (an rs e1 (mk1 x)) t e2 d) : Rest rs x One e (ts ++ [t]) e2 := by
 induction h with
 | nil e => exact .cons e _ _ d t [] h1 h2 (.nil _)
 | cons e e1 e2 d t ts a1 a2 a3 ih => exact .cons e e1 _ _ t _ a1 a2 (ih h1 h2)
theorem fF.rest {x : UInt8} (h : fF rs x One p ts e d) : ∃ t0 ts' e0 d0,ts = t0 :: ts' ∧ One p t0 e0 d0 ∧ Rest rs x One e0 ts' e := by
 induction h with
 | one t e d h => exact ⟨t,[],e,d,rfl,h,.nil _⟩
 | more ts t e d e1 d1 h h1 h2 ih =>
  obtain ⟨t0,ts',e0,d0,rfl,h3,h4⟩ := ih;exact ⟨t0,ts' ++ [t],e0,d0,rfl,h3,h4.snoc h1 h2⟩
theorem PAt.frB2 {ty : TypeId} {y : Nat} (h : PAt ty w B t l) (hx : Blk w x y cs) (hf : Fr (fun j => j = x) w w') (hB : x < B) : PAt ty w' B t l := h.fr hf (fun j _ hj _ e => by omega)
theorem Sm.trans {r : Nat} (h : Sm rs p q) (h2 : Sm rs q r) : Sm rs p r := Eq.trans h h2
def nS (rs : List Int) (P : Nat → PT → Nat → Nat → Prop) : Prop := ∀ (p : Nat) (t : PT) (e d : Nat),P p t e d → ∀ (p' b c : Nat) (A : Option Addr) (w : World),Sm rs p p' → Sg w → Sc w b A c rs p' → Calls prog 272 #[.agg #[.pointer (some ⟨b,0,none⟩)]] w (PP rs e t w b A c)
theorem EZ (P : Nat → PT → Nat → Nat → Prop) (rs : List Int) (HR : nS rs P) (p : Nat) (t : PT) (e d : Nat) (hA : dG rs P p t e d) (p' b c : Nat) (A : Option Addr) (w : World) (hp : Sm rs p p') (hg : Sg w) (h : Sc w b A c rs p') :
    Calls prog 346 #[.agg #[.pointer (some ⟨b,0,none⟩)]] w (PP rs e t w b A c) := by
 have hx := Blk.new w 62 #[.pointer (some ⟨b,0,none⟩)];have hy := Blk.new (w.alloc (.cells #[.pointer (some ⟨b,0,none⟩)] 62)) 174 #[.int .i64 0,.string ⟨#[]⟩,.slice none 0 0];rw [show (w.alloc (.cells #[.pointer (some ⟨b,0,none⟩)] 62)).heap.size = w.heap.size + 1 by simp] at hy;have HX := Hd (show Blk ((w.alloc (.cells #[.pointer (some ⟨b,0,none⟩)] 62)).alloc (.cells #[.int .i64 0,.string ⟨#[]⟩,.slice none 0 0] 174)) w.heap.size 62 #[.pointer (some ⟨b,0,none⟩)] from hx.alloc _);have HY := Hd (show Blk ((w.alloc (.cells #[.pointer (some ⟨b,0,none⟩)] 62)).alloc (.cells #[.int .i64 0,.string ⟨#[]⟩,.slice none 0 0] 174)) (w.heap.size + 1) 174 Z62 from hy);have hf0 := Fr.a2 w (.cells #[.pointer (some ⟨b,0,none⟩)] 62) (.cells #[.int .i64 0,.string ⟨#[]⟩,.slice none 0 0] 174);have HF := Hd (FrN.of (b := b) hf0);have HS := Hd (h.frF hf0);have HG := Hd (hg.frF hf0);have x0 := HX.c0;have hbl := h.blk.lt;have HM40 := Hd (fun w1 h1 => b8 ⟨#[40]⟩ b c p' A rs w1 (ax de) de h1);have hm40 := hp.mark ⟨#[40]⟩;rw [← hm40.1] at HM40;cases hA with
 | paren _ e1 _ h1 h2 h3 =>
  have h1' : aj rs p ⟨#[40]⟩ = true := h1;rw [h1',← hm40.2 h1'] at HM40;have HRR := Hd (fun w1 hg1 h5 => HR _ t e1 d h2 (an rs p ⟨#[40]⟩) b c A w1 rfl hg1 h5);have HMU := Hd (fun q w1 (h4 : Sm rs e1 q) h5 => jo ⟨#[41]⟩ b c q (an rs e1 ⟨#[41]⟩) A rs w1 (ax de) de (by rw [← (h4.mark _).1]; exact h3) ((h4.mark _).2 h3).symm h5);generalize an rs p ⟨#[40]⟩ = p1 at *;unfold mk1;generalize an rs e1 ⟨#[41]⟩ = e2 at *;unfold PP at HRR;clear h hg hx hy hf0 hm40 h1 h1' h2 h3 HR hp;go_enter func346,ntmps346;go_wp2_with fail;refine (HM40 _ HS).mono ?_;generalize ((w.alloc (.cells #[.pointer (some ⟨b,0,none⟩)] 62)).alloc (.cells #[.int .i64 0,.string ⟨#[]⟩,.slice none 0 0] 174)) = w0 at *;rintro e w1 ⟨rfl,hs1,hf1⟩;have hx := HX.fr hf1 (by omega);have x1 := hx.c0;have HX1 := Hd hx;have HY1 := Hd (HY.fr hf1 (by omega));have HS1 := Hd hs1;have HF1 := Hd (HF.andB hf1);have HG1 := Hd (HG.frB HS.blk de hf1);clear hx hs1 hf1 x0;go_wp2_with fail;refine (HRR.out w1 HG1.out HS1).mono ?_;rintro e w2 ⟨k,i,A2,n2,c2,rfl,hpa,⟨q',hsm,hs2⟩,hf2⟩;have hx := HX1.fr hf2 (by omega);have x2 := hx.c0;have HX2 := Hd hx;have HY2 := Hd (HY1.fr hf2 (by omega));have HS2 := Hd hs2;have HF2 := Hd (HF1.andB hf2);have HG2 := Hd (HG1.frB HS1.blk de hf2);have HSM := Hd hsm;have hw1 := HY1.lt;have hfa := Fr.a1 w2 (.cells #[.int .i64 k,.string i,.slice A2 n2 c2] 174);have HN3 := Hd (show Blk (w2.alloc (.cells #[.int .i64 k,.string i,.slice A2 n2 c2] 174)) w2.heap.size 174 #[.int .i64 k,.string i,.slice A2 n2 c2] from Blk.new w2 174 #[.int .i64 k,.string i,.slice A2 n2 c2]);have HPA3 := Hd (hpa.frF hfa);have x3 := (HX2.fr hfa id).c0;have HX3 := Hd (HX2.fr hfa id);have HY3 := Hd (HY2.fr hfa id);have HS3 := Hd (HS2.frF hfa);have HF3 := Hd (HF2.andF hfa);have hsz := HY2.lt;clear hx hs2 hf2 hpa hsm hfa x1 x2;go_wp2_with fail;refine (HMU.out q' _ HSM.out HS3).mono ?_;generalize w2.alloc (.cells #[.int .i64 k,.string i,.slice A2 n2 c2] 174) = w3 at *;rintro e w4 ⟨rfl,hs4,hf4⟩;have hx := HX3.fr hf4 (by omega);have HY4 := Hd (HY3.fr hf4 (by omega));have HS4 := Hd hs4;have HF4 := Hd (HF3.andB hf4);have HPA4 := Hd (HPA3.fr hf4 (fun j cs hj hb e => Blk.ne_ hb HS3.blk de e));have HN4 := Hd (HN3.fr hf4 (by omega));clear hx hs4 hf4 x3;go_wp2_with (first | ((with_reducible change wpList _ _ _ (Oper.mk _ (.load 174 _) _ _ _ _ :: _) _ _); refine aD rfl 174 _ rfl _ rfl 174 #[.int .i64 k,.string i,.slice A2 n2 c2] HN4 _ underlying174 rfl bj ?_) | ((with_reducible change wpList _ _ _ (Oper.mk _ (.store 174 _ _) _ _ _ _ :: _) _ _); refine ao rfl 174 _ _ rfl _ #[.int .i64 k,.string i,.slice A2 n2 c2] rfl rfl 174 _ HY4 (by rfl) (by exact bj) (by exact (cj _ _ _ _ _).one) ?_));refine Hd ?_;rintro wz hbz hfz;have HFZ := Hd (HF4.andX hfz jj).done;have HSZ := Hd (HS4.fr hfz (by omega) (fun j hj e => ac HS4.row HY4.out de (by rw [hj,e])));go_wp2_with fail;exact bodyPost_ret (v := .agg #[.int .i64 k,.string i,.slice A2 n2 c2]) (results_cell_row rfl _ _ (w.heap.size + 1) 174 _ (0,0) _ rfl hbz underlying174 rfl bj) rfl ⟨_,_,_,_,_,rfl,((HPA4.frB2 HY4.out hfz jj).base jj),⟨_,rfl,HSZ⟩,HFZ⟩
 | back _ i h1 h2 h3 =>
  have h1' : aj rs p ⟨#[40]⟩ = false := h1;have h2' : aj rs p ⟨#[94]⟩ = true := h2;have hs1' : Sm rs p (an rs p' ⟨#[40]⟩) := by
   unfold an;rw [← hm40.1,h1',if_neg Bool.false_ne_true];exact hp.trans (Sm.skip)
  rw [h1'] at HM40;generalize an rs p' ⟨#[40]⟩ = p1 at *;have HM94 := Hd (fun w1 h1 => b8 ⟨#[94]⟩ b c p1 A rs w1 (ax de) de h1);have hm94' := hs1'.mark ⟨#[94]⟩;rw [← hm94'.1,h2',← hm94'.2 h2'] at HM94;have HI := Hd (fun w1 h1 => uj i b c _ e A rs w1 h3 h1);unfold mk1 at HI;generalize an rs p ⟨#[94]⟩ = p2 at *;clear h hg hx hy hf0 hm40 h1 h1' h2 h2' h3 HR hp hs1' hm94';go_enter func346,ntmps346;go_wp2_with fail;refine (HM40 _ HS).mono ?_;generalize ((w.alloc (.cells #[.pointer (some ⟨b,0,none⟩)] 62)).alloc (.cells #[.int .i64 0,.string ⟨#[]⟩,.slice none 0 0] 174)) = w0 at *;rintro e w1 ⟨rfl,hs1,hf1⟩;have hx := HX.fr hf1 (by omega);have x1 := hx.c0;have HX1 := Hd hx;have HY1 := Hd (HY.fr hf1 (by omega));have HS1 := Hd hs1;have HF1 := Hd (HF.andB hf1);have HG1 := Hd (HG.frB HS.blk de hf1);clear hx hs1 hf1 x0;go_wp2_with fail;refine (HM94 _ HS1).mono ?_;rintro e w2 ⟨rfl,hs2,hf2⟩;have hx := HX1.fr hf2 (by omega);have x2 := hx.c0;have HX2 := Hd hx;have HY2 := Hd (HY1.fr hf2 (by omega));have HS2 := Hd hs2;have HF2 := Hd (HF1.andB hf2);have HG2 := Hd (HG1.frB HS1.blk de hf2);clear hx hs2 hf2 x1;go_wp2_with fail;refine (HI.out w2 HS2).mono ?_;rintro e w3 ⟨rfl,hs3,hf3⟩;have hx := HX2.fr hf3 (by omega);have x3 := hx.c0;have HX3 := Hd hx;have HY3 := Hd (HY2.fr hf3 (by omega));have HS3 := Hd hs3;have HF3 := Hd (HF2.andB hf3);have hsz := HY3.lt;clear hx hs3 hf3 x2;go_wp2_with (first | ((with_reducible change wpList _ _ _ (Oper.mk _ (.store 174 _ _) _ _ _ _ :: _) _ _); refine ao rfl 174 _ _ rfl _ #[.int .i64 1,.string i,.slice none 0 0] rfl rfl 174 _ HY3 (by rfl) (by exact bj) (by exact (cj _ _ _ _ _).one) ?_));refine Hd ?_;rintro wz hbz hfz;have HFZ := Hd (HF3.andX hfz jj).done;have HSZ := Hd (HS3.fr hfz (by omega) (fun j hj e => ac HS3.row HY3.out de (by rw [hj,e])));go_wp2_with fail;exact bodyPost_ret (v := .agg #[.int .i64 1,.string i,.slice none 0 0]) (results_cell_row rfl _ _ (w.heap.size + 1) 174 _ (0,0) _ rfl hbz underlying174 rfl bj) rfl ⟨_,_,_,_,_,rfl,.leaf _ _,⟨_,rfl,HSZ⟩,HFZ⟩
 | step _ i h1 h2 h3 =>
  have h1' : aj rs p ⟨#[40]⟩ = false := h1;have h2' : aj rs p ⟨#[94]⟩ = false := h2;have hs1' : Sm rs p (an rs p' ⟨#[40]⟩) := by
   unfold an;rw [← hm40.1,h1',if_neg Bool.false_ne_true];exact hp.trans (Sm.skip)
  rw [h1'] at HM40;generalize an rs p' ⟨#[40]⟩ = p1 at *;have HM94 := Hd (fun w1 h1 => b8 ⟨#[94]⟩ b c p1 A rs w1 (ax de) de h1);have hm94' := hs1'.mark ⟨#[94]⟩;have hs2' : Sm rs p (an rs p1 ⟨#[94]⟩) := by
   unfold an;rw [← hm94'.1,h2',if_neg Bool.false_ne_true];exact hs1'.trans (Sm.skip)
  rw [← hm94'.1,h2'] at HM94;generalize an rs p1 ⟨#[94]⟩ = p2 at *;have HI := Hd (fun w1 h1 => uj i b c p2 e A rs w1 (hs2'.iri h3) h1);clear h hg hx hy hf0 hm40 h1 h1' h2 h2' h3 HR hp hs1' hm94' hs2';go_enter func346,ntmps346;go_wp2_with fail;refine (HM40 _ HS).mono ?_;generalize ((w.alloc (.cells #[.pointer (some ⟨b,0,none⟩)] 62)).alloc (.cells #[.int .i64 0,.string ⟨#[]⟩,.slice none 0 0] 174)) = w0 at *;rintro e w1 ⟨rfl,hs1,hf1⟩;have hx := HX.fr hf1 (by omega);have x1 := hx.c0;have HX1 := Hd hx;have HY1 := Hd (HY.fr hf1 (by omega));have HS1 := Hd hs1;have HF1 := Hd (HF.andB hf1);have HG1 := Hd (HG.frB HS.blk de hf1);clear hx hs1 hf1 x0;go_wp2_with fail;refine (HM94 _ HS1).mono ?_;rintro e w2 ⟨rfl,hs2,hf2⟩;have hx := HX1.fr hf2 (by omega);have x2 := hx.c0;have HX2 := Hd hx;have HY2 := Hd (HY1.fr hf2 (by omega));have HS2 := Hd hs2;have HF2 := Hd (HF1.andB hf2);have HG2 := Hd (HG1.frB HS1.blk de hf2);clear hx hs2 hf2 x1;go_wp2_with fail;refine (HI.out w2 HS2).mono ?_;rintro e w3 ⟨rfl,hs3,hf3⟩;have hx := HX2.fr hf3 (by omega);have x3 := hx.c0;have HX3 := Hd hx;have HY3 := Hd (HY2.fr hf3 (by omega));have HS3 := Hd hs3;have HF3 := Hd (HF2.andB hf3);have hsz := HY3.lt;clear hx hs3 hf3 x2;go_wp2_with (first | ((with_reducible change wpList _ _ _ (Oper.mk _ (.store 174 _ _) _ _ _ _ :: _) _ _); refine ao rfl 174 _ _ rfl _ #[.int .i64 0,.string i,.slice none 0 0] rfl rfl 174 _ HY3 (by rfl) (by exact bj) (by exact (cj _ _ _ _ _).one) ?_));refine Hd ?_;rintro wz hbz hfz;have HFZ := Hd (HF3.andX hfz jj).done;have HSZ := Hd (HS3.fr hfz (by omega) (fun j hj e => ac HS3.row HY3.out de (by rw [hj,e])));go_wp2_with fail;exact bodyPost_ret (v := .agg #[.int .i64 0,.string i,.slice none 0 0]) (results_cell_row rfl _ _ (w.heap.size + 1) 174 _ (0,0) _ rfl hbz underlying174 rfl bj) rfl ⟨_,_,_,_,_,rfl,.leaf _ _,⟨_,rfl,HSZ⟩,HFZ⟩
section
theorem Sm.no {T : ByteArray} (h : Sm rs e q) (hf : aj rs e T = false) : Sm rs e (an rs q T) := by
 unfold an;rw [← (h.mark T).1,hf,if_neg Bool.false_ne_true];exact h.trans Sm.skip
theorem sL (h : lK rs e = 0) : aj rs e ⟨#[42]⟩ = false ∧ aj rs e ⟨#[43]⟩ = false ∧ aj rs e ⟨#[126]⟩ = false := by
 unfold lK mk1 at h;split at h
 · cases h
 · split at h
   · cases h
   · split at h
     · cases h
     · rename_i h1 h2 h3;exact ⟨by simpa using h1,by simpa using h2,by simpa using h3⟩
theorem E0 (w : World) : (Instr.index 447 (.agg #[.string ⟨#[]⟩,.string ⟨#[]⟩,.string ⟨#[]⟩,.string ⟨#[]⟩,.string ⟨#[42]⟩,.string ⟨#[43]⟩,.string ⟨#[126]⟩]) (.int .i64 0)).run prog w = .ok (.string ⟨#[]⟩) w := kr
theorem E1 (w : World) : (Instr.index 447 (.agg #[.string ⟨#[]⟩,.string ⟨#[]⟩,.string ⟨#[]⟩,.string ⟨#[]⟩,.string ⟨#[42]⟩,.string ⟨#[43]⟩,.string ⟨#[126]⟩]) (.int .i64 1)).run prog w = .ok (.string ⟨#[]⟩) w := kr
theorem E2 (w : World) : (Instr.index 447 (.agg #[.string ⟨#[]⟩,.string ⟨#[]⟩,.string ⟨#[]⟩,.string ⟨#[]⟩,.string ⟨#[42]⟩,.string ⟨#[43]⟩,.string ⟨#[126]⟩]) (.int .i64 2)).run prog w = .ok (.string ⟨#[]⟩) w := kr
theorem E3 (w : World) : (Instr.index 447 (.agg #[.string ⟨#[]⟩,.string ⟨#[]⟩,.string ⟨#[]⟩,.string ⟨#[]⟩,.string ⟨#[42]⟩,.string ⟨#[43]⟩,.string ⟨#[126]⟩]) (.int .i64 3)).run prog w = .ok (.string ⟨#[]⟩) w := kr
theorem E4 (w : World) : (Instr.index 447 (.agg #[.string ⟨#[]⟩,.string ⟨#[]⟩,.string ⟨#[]⟩,.string ⟨#[]⟩,.string ⟨#[42]⟩,.string ⟨#[43]⟩,.string ⟨#[126]⟩]) (.int .i64 4)).run prog w = .ok (.string ⟨#[42]⟩) w := kr
theorem E5 (w : World) : (Instr.index 447 (.agg #[.string ⟨#[]⟩,.string ⟨#[]⟩,.string ⟨#[]⟩,.string ⟨#[]⟩,.string ⟨#[42]⟩,.string ⟨#[43]⟩,.string ⟨#[126]⟩]) (.int .i64 5)).run prog w = .ok (.string ⟨#[43]⟩) w := kr
theorem E6 (w : World) : (Instr.index 447 (.agg #[.string ⟨#[]⟩,.string ⟨#[]⟩,.string ⟨#[]⟩,.string ⟨#[]⟩,.string ⟨#[42]⟩,.string ⟨#[43]⟩,.string ⟨#[126]⟩]) (.int .i64 6)).run prog w = .ok (.string ⟨#[126]⟩) w := kr
attribute [local go_sem] E0 E1 E2 E3 E4 E5 E6
theorem Bf (t : PT) (rs : List Int) (p' e b c : Nat) (A : Option Addr) (w : World) (hg : Sg w) (h : Sc w b A c rs p') (HA : ∀ w1,Sg w1 → Sc w1 b A c rs p' → Calls prog 346 #[.agg #[.pointer (some ⟨b,0,none⟩)]] w1 (PP rs e t w1 b A c)) (h4 : aj rs e ⟨#[42]⟩ = false) (h5 : aj rs e ⟨#[43]⟩ = false) (h6 : aj rs e ⟨#[126]⟩ = false) :
    Calls prog 319 #[.agg #[.pointer (some ⟨b,0,none⟩)]] w (PP rs e t w b A c) := by
 have hx := Blk.new w 62 #[.pointer (some ⟨b,0,none⟩)];have hy := Blk.new (w.alloc (.cells #[.pointer (some ⟨b,0,none⟩)] 62)) 174 #[.int .i64 0,.string ⟨#[]⟩,.slice none 0 0];rw [show (w.alloc (.cells #[.pointer (some ⟨b,0,none⟩)] 62)).heap.size = w.heap.size + 1 by simp] at hy;have HX := Hd (show Blk ((w.alloc (.cells #[.pointer (some ⟨b,0,none⟩)] 62)).alloc (.cells #[.int .i64 0,.string ⟨#[]⟩,.slice none 0 0] 174)) w.heap.size 62 #[.pointer (some ⟨b,0,none⟩)] from hx.alloc _);have HY := Hd (show Blk ((w.alloc (.cells #[.pointer (some ⟨b,0,none⟩)] 62)).alloc (.cells #[.int .i64 0,.string ⟨#[]⟩,.slice none 0 0] 174)) (w.heap.size + 1) 174 Z62 from hy);have hf0 := Fr.a2 w (.cells #[.pointer (some ⟨b,0,none⟩)] 62) (.cells #[.int .i64 0,.string ⟨#[]⟩,.slice none 0 0] 174);have HF := Hd (FrN.of (b := b) hf0);have HS := Hd (h.frF hf0);have HG := Hd (hg.frF hf0);have x0 := HX.c0;have hbl := h.blk.lt;have HAA := Hd (HA _ HG.out HS);have HM4 := Hd (fun q w1 (h : Sm rs e q) h1 => show Calls prog 97 #[.agg #[.pointer (some ⟨b,0,none⟩)],.string ⟨#[42]⟩] w1 (aV w1 b A c rs (an rs q ⟨#[42]⟩) (.bool false)) by
  have hm := b8 ⟨#[42]⟩ b c q A rs w1 (ax de) de h1;rw [← (h.mark _).1,h4] at hm;exact hm)
 have HN4 := Hd (fun q (h : Sm rs e q) => h.no h4);have HM5 := Hd (fun q w1 (h : Sm rs e q) h1 => show Calls prog 97 #[.agg #[.pointer (some ⟨b,0,none⟩)],.string ⟨#[43]⟩] w1 (aV w1 b A c rs (an rs q ⟨#[43]⟩) (.bool false)) by
  have hm := b8 ⟨#[43]⟩ b c q A rs w1 (ax de) de h1;rw [← (h.mark _).1,h5] at hm;exact hm)
 have HN5 := Hd (fun q (h : Sm rs e q) => h.no h5);have HM6 := Hd (fun q w1 (h : Sm rs e q) h1 => show Calls prog 97 #[.agg #[.pointer (some ⟨b,0,none⟩)],.string ⟨#[126]⟩] w1 (aV w1 b A c rs (an rs q ⟨#[126]⟩) (.bool false)) by
  have hm := b8 ⟨#[126]⟩ b c q A rs w1 (ax de) de h1;rw [← (h.mark _).1,h6] at hm;exact hm)
 have HN6 := Hd (fun q (h : Sm rs e q) => h.no h6);unfold PP at HAA;clear h hg hx hy hf0 HA h4 h5 h6;go_enter func319,ntmps319;go_wp2_with fail;refine HAA.mono ?_;generalize ((w.alloc (.cells #[.pointer (some ⟨b,0,none⟩)] 62)).alloc (.cells #[.int .i64 0,.string ⟨#[]⟩,.slice none 0 0] 174)) = w0 at *;rintro e w2 ⟨k,i,A2,n2,c2,rfl,hpa,⟨q',hsm,hs2⟩,hf2⟩;have hx := HX.fr hf2 (by omega);have HX2 := Hd hx;have HY2 := Hd (HY.fr hf2 (by omega));have HS2 := Hd hs2;have HF2 := Hd (HF.andB hf2);have HG2 := Hd (HG.frB HS.blk de hf2);have hw1 := HY.lt;have hfa := Fr.a1 w2 (.cells #[.int .i64 k,.string i,.slice A2 n2 c2] 174);have HN3 := Hd (show Blk (w2.alloc (.cells #[.int .i64 k,.string i,.slice A2 n2 c2] 174)) w2.heap.size 174 #[.int .i64 k,.string i,.slice A2 n2 c2] from Blk.new w2 174 #[.int .i64 k,.string i,.slice A2 n2 c2]);have HPA3 := Hd (hpa.frF hfa);have HX3 := Hd (HX2.fr hfa id);have HY3 := Hd (HY2.fr hfa id);have HS3 := Hd (HS2.frF hfa);have HF3 := Hd (HF2.andF hfa);have hsg := HG2.frF hfa;have hsz := HY2.lt;have g0 := hsg.c0;have g1 := hsg.c1;have g2 := hsg.c2;have g3 := hsg.c3;have g4 := hsg.c4;have g5 := hsg.c5;have g6 := hsg.c6;obtain ⟨w3,hw3⟩ : ∃ w3,w3 = w2.alloc (.cells #[.int .i64 k,.string i,.slice A2 n2 c2] 174) := ⟨_,rfl⟩;rw [← hw3] at HN3 HPA3 HX3 HY3 HS3 HF3;clear hx hs2 hf2 hpa hfa hsg x0 HX2 HY2 HS2 HF2 HG2 HAA;go_wp2_with fail;rw [← hw3];clear hw3 g0 g1 g2 g3 g4 g5 g6
 go_loopg [9] (7) (fun gk iv wr => ∃ m : Nat,iv = .int .i64 (m : Int) ∧ 7 ≤ m + gk ∧ m ≤ 7 ∧ (∃ q',Sm rs e q' ∧ Sc wr b A c rs q') ∧ Fr (fun j => j = b) w3 wr)
 case atStart => exact ⟨0,rfl,by omega,by omega,⟨q',hsm,HS3⟩,Fr.refl _ _⟩
 case round =>
  obtain ⟨m,rfl,hgk,hm,⟨qr,hsmr,hsr⟩,hfr⟩ := hrel;have HSr := Hd hsr;have HFr := Hd hfr;have HSMr := Hd hsmr;have xr := (HX3.fr hfr (by omega)).c0;clear hsr hfr hsmr hsm;have hk8 : m = 0 ∨ m = 1 ∨ m = 2 ∨ m = 3 ∨ m = 4 ∨ m = 5 ∨ m = 6 ∨ m = 7 := jj;clear hm;rcases hk8 with rfl | rfl | rfl | rfl | rfl | rfl | rfl | rfl
  · go_wp2_with fail
    go_roundg (7 - 1)
    case measure => omega
    case rel => exact ⟨1,rfl,by omega,by omega,⟨qr,HSMr,HSr⟩,HFr⟩
  · go_wp2_with fail
    go_roundg (7 - 2)
    case measure => omega
    case rel => exact ⟨2,rfl,by omega,by omega,⟨qr,HSMr,HSr⟩,HFr⟩
  · go_wp2_with fail
    go_roundg (7 - 3)
    case measure => omega
    case rel => exact ⟨3,rfl,by omega,by omega,⟨qr,HSMr,HSr⟩,HFr⟩
  · go_wp2_with fail
    go_roundg (7 - 4)
    case measure => omega
    case rel => exact ⟨4,rfl,by omega,by omega,⟨qr,HSMr,HSr⟩,HFr⟩
  · go_wp2_with fail;refine (HM4.out qr wr HSMr.out HSr).mono ?_;rintro e w4 ⟨rfl,hs4,hf4⟩;go_wp2_with fail
    go_roundg (7 - 5)
    case measure => omega
    case rel => exact ⟨5,rfl,by omega,by omega,⟨_,HN4.out qr HSMr,hs4⟩,HFr.trans' hf4⟩
  · go_wp2_with fail;refine (HM5.out qr wr HSMr.out HSr).mono ?_;rintro e w4 ⟨rfl,hs4,hf4⟩;go_wp2_with fail
    go_roundg (7 - 6)
    case measure => omega
    case rel => exact ⟨6,rfl,by omega,by omega,⟨_,HN5.out qr HSMr,hs4⟩,HFr.trans' hf4⟩
  · go_wp2_with fail;refine (HM6.out qr wr HSMr.out HSr).mono ?_;rintro e w4 ⟨rfl,hs4,hf4⟩;go_wp2_with fail
    go_roundg (7 - 7)
    case measure => omega
    case rel => exact ⟨7,rfl,by omega,by omega,⟨_,HN6.out qr HSMr,hs4⟩,HFr.trans' hf4⟩
  · have HS4 := HSr;have HY4 := Hd (HY3.fr HFr (by omega));have HN4 := Hd (HN3.fr HFr (by omega));have HF4 := Hd (HF3.andB HFr);have HPA4 := Hd (HPA3.fr HFr (fun j cs hj hb e => Blk.ne_ hb HS3.blk de e));go_wp2_with (first | ((with_reducible change wpList _ _ _ (Oper.mk _ (.load 174 _) _ _ _ _ :: _) _ _); refine aD rfl 174 _ rfl _ rfl 174 #[.int .i64 k,.string i,.slice A2 n2 c2] HN4 _ underlying174 rfl bj ?_) | ((with_reducible change wpList _ _ _ (Oper.mk _ (.store 174 _ _) _ _ _ _ :: _) _ _); refine ao rfl 174 _ _ rfl _ #[.int .i64 k,.string i,.slice A2 n2 c2] rfl rfl 174 _ HY4 (by rfl) (by exact bj) (by exact (cj _ _ _ _ _).one) ?_));refine Hd ?_;rintro wz hbz hfz;have HFZ := Hd (HF4.andX hfz jj).done;have HSZ := Hd (HS4.fr hfz (by omega) (fun j hj e => ac HS4.row HY4.out de (by rw [hj,e])));go_wp2_with fail;exact bodyPost_ret (v := .agg #[.int .i64 k,.string i,.slice A2 n2 c2]) (results_cell_row rfl _ _ (w.heap.size + 1) 174 _ (0,0) _ rfl hbz underlying174 rfl bj) rfl ⟨_,_,_,_,_,rfl,((HPA4.frB2 HY4.out hfz jj).base jj),⟨_,HSMr,HSZ⟩,HFZ⟩
theorem E7 (P : Nat → PT → Nat → Nat → Prop) (rs : List Int) (HR : nS rs P) (p : Nat) (t : PT) (e d : Nat) (hA : bD rs P p t e d) (p' b c : Nat) (A : Option Addr) (w : World) (hp : Sm rs p p') (hg : Sg w) (h : Sc w b A c rs p') :
    Calls prog 319 #[.agg #[.pointer (some ⟨b,0,none⟩)]] w (PP rs e t w b A c) := by
 obtain ⟨h1,h2⟩ := hA;obtain ⟨a,b',c'⟩ := sL h2;exact Bf t rs p' e b c A w hg h (fun w1 h4 h5 => EZ P rs HR p t e d h1 p' b c A w1 hp h4 h5) a b' c'
end
end Go.Proofs.YtfaapkpebnagmaaGreatDoor
