/- Texts of the proof, one behind the other: Xp, Xq, Xr, Xs, Ab, Xt, Yq, Yg, Yh. -/
import Derived.Test.YtfaapkpebnagmaaGreatDoorXu
namespace Go.Proofs.YtfaapkpebnagmaaGreatDoor
open _root_.Go.Proofs.Tryz
open Go.RowKit Go
set_option linter.unusedVariables false
set_option maxRecDepth 100000
set_option maxHeartbeats 400000000
variable {w w' : World} {ss sb sa sc : List ByteArray} {B m n c i : Nat} {R ra rb : List (List Int)} {tv : Value} {P : Program} {ty : TypeId}
def cS (Q : List (List Int) → Prop) (m : Nat) (ss : List ByteArray) (w : World) (e : Ending) (w' : World) : Prop := ∃ R,Q R ∧ aQ w m ss R e w'
theorem aL.low (h : aL w B m tv ss R) : aL w 0 m tv ss R := by
 obtain ⟨V,vc,vr,vals,e,h1,h2⟩ := h;exact ⟨V,vc,vr,vals,e,ai h1 (Nat.zero_le _),h2.base (Nat.zero_le _)⟩
theorem aL.frF (h : aL w B m tv ss R) (hf : Fr (fun _ => False) w w') : aL w' B m tv ss R := by
 obtain ⟨V,vc,vr,vals,e,h1,h2⟩ := h;exact ⟨V,vc,vr,vals,e,aa h1 hf ii,h2.frF hf⟩
theorem jQ {ops : Array Oper} {op : Oper} {a : Act} {S : World → Prop} (hw : Region.wanted op (yielded ops a.tmps) = true) (ty : TypeId) (x : Operand) (ho : op.op = .load ty x) (b : Nat) (hx : a.eval x = .pointer (some ⟨b,0,none⟩)) (t : TypeId) (cs : Array Value) (hS : ∀ w,S w → Blk w b t cs) (d : TypeDesc) (hu : prog.underlying ty = some d) (hd : d.isRow = true) (hi : (prog.info? ty).map (·.size) = some cs.size) : YieldsIf prog ops S op (.agg cs) a := by
 have h := yieldsIf_load_mid (P := prog) hw ty x ho b 0 hx cs.toList d (fun w hw => (hS w hw).rangeA) hu hd (by rw [hi,Array.length_toList]);rw [Array.toArray_toList] at h;exact h
theorem Fr.drew_l {S : Nat → Prop} {a b : World} (h : Fr S a.drew b) : Fr S a b := ⟨h.os,h.tape,h.output,h.size,h.block⟩
theorem kE (eb db sb : Nat) (ma : Option Nat) (mA ca m2 m3 : Nat) (VA : Option Addr) (vra : Value) (s2 s3 : List ByteArray) (Q2 Q3 : List (List Int) → Prop) (d s mp : Value) (z : Array Value) (w : World) (hE : Blk w eb 95 #[d,s,mp,.int .i64 0]) (hN : aY 17 z) (hz0 : z[0]? = some (.int .i64 0)) (hva : ∃ A n c,vra = .slice A n c)
    (HT : ∀ W,Fr (fun _ => False) w W → Calls prog 125 #[.pointer (some ⟨eb,0,none⟩),.agg z,fromV db sb ma] W (cS Q2 m2 s2 W)) (hQ2 : ∀ R,Q2 R → R.length ≤ 4096)
    (HJ : ∀ W V2 c2 vr2 R2,Fr (fun _ => False) w W → Q2 R2 → aL W 0 m2 (.agg #[.slice V2 m2 c2,vr2]) s2 R2 → Calls prog 123 #[.pointer (some ⟨eb,0,none⟩),.agg #[.slice VA mA ca,vra],.agg #[.slice V2 m2 c2,vr2]] W (cS Q3 m3 s3 W)) :
    Calls prog 72 #[.pointer (some ⟨eb,0,none⟩),.agg #[.slice VA mA ca,vra],.agg z,fromV db sb ma] w (cS Q3 m3 s3 w) := by
 obtain ⟨AA,na,caa,rfl⟩ := hva;obtain ⟨W0,hW0⟩ : ∃ W0,W0 = (((w.alloc (.cells #[.pointer (some ⟨eb,0,none⟩)] 93)).alloc (.cells #[.slice VA mA ca,.slice AA na caa] 47)).alloc (.cells z 180)).alloc (.cells #[.slice none 0 0,.slice none 0 0] 47) := ⟨_,rfl⟩;have hf0 : Fr (fun _ => False) w W0 := by rw [hW0]; exact ((((Fr.refl _ w).alloc _).alloc _).alloc _).alloc _
 have e1 := al1 w (.cells #[.pointer (some ⟨eb,0,none⟩)] 93);have e2 := al2 w (.cells #[.pointer (some ⟨eb,0,none⟩)] 93) (.cells #[.slice VA mA ca,.slice AA na caa] 47);have e3 := al3 w (.cells #[.pointer (some ⟨eb,0,none⟩)] 93) (.cells #[.slice VA mA ca,.slice AA na caa] 47) (.cells z 180);have b0 : Blk W0 w.heap.size 93 #[.pointer (some ⟨eb,0,none⟩)] := by rw [hW0]; exact (((Blk.new w 93 _).alloc _).alloc _).alloc _
 have b1 : Blk W0 (w.heap.size + 1) 47 #[.slice VA mA ca,.slice AA na caa] := by rw [hW0,← e1]; exact ((Blk.new _ 47 _).alloc _).alloc _
 have b2 : Blk W0 (w.heap.size + 1 + 1) 180 z := by rw [hW0,← e2]; exact (Blk.new _ 180 _).alloc _
 have b3 : Blk W0 (w.heap.size + 1 + 1 + 1) 47 #[.slice none 0 0,.slice none 0 0] := by rw [hW0,← e3]; exact Blk.new _ 47 _
 have HSX := Hd (show ∀ wy,Fr (fun j => j = w.heap.size + 1 + 1 + 1) W0 wy → wy.cell? ⟨w.heap.size,0,none⟩ = some (.pointer (some ⟨eb,0,none⟩)) ∧ wy.cell? ⟨w.heap.size + 1,0,none⟩ = some (.slice VA mA ca) ∧ wy.cell? ⟨w.heap.size + 1,1,none⟩ = some (.slice AA na caa) ∧ Blk wy (w.heap.size + 1 + 1) 180 z from
  fun wy hf => ⟨(b0.fr hf (by omega)).cell 0,(b1.fr hf (by omega)).cell 0,(b1.fr hf (by omega)).cell 1,b2.fr hf (by omega)⟩)
 have HB3 := Hd b3;have HF0 := Hd hf0;have HTT := Hd HT;have HJJ := Hd HJ;have HQ := Hd hQ2;unfold cS aQ at HTT;have HW := Hd hW0;have HFE := Hd (fun W V m vc n A c (h : n ≤ 4096) => xK (some ⟨eb,0,none⟩) V A m vc n c W jj);clear hE hf0 e1 e2 e3 b0 b1 b2 b3 HT HJ hQ2 hW0;go_enter func72,ntmps72;go_wp2_with fail;rw [← HW.out];refine wp_region_noPanic ?_;refine wp_region_held_drew (S := (fun wy => wy.cell? ⟨w.heap.size,0,none⟩ = some (.pointer (some ⟨eb,0,none⟩)) ∧ wy.cell? ⟨w.heap.size + 1,0,none⟩ = some (.slice VA mA ca) ∧ wy.cell? ⟨w.heap.size + 1,1,none⟩ = some (.slice AA na caa) ∧ Blk wy (w.heap.size + 1 + 1) 180 z)) kr ?_ (fun hHeld => ?_)
 · try dsimp only
   exact HSX _ (Fr.refl (fun j => j = w.heap.size + 1 + 1 + 1) W0).drew
 refine oT 0 ?_;refine oT 1 ?_;refine oT 2 ?_;refine oT 3 ?_;refine wpAnyH_take (i := 4) (oi := _) (v := _) (by simp only [List.getElem?_toArray,List.getElem?_cons_zero,List.getElem?_cons_succ]; rfl) kr kr kr (fun _ _ _ h => h) (jQ (by rfl) 180 _ rfl (w.heap.size + 1 + 1) (by rfl) 180 z (fun w hw => hw.2.2.2) _ underlying180 rfl (fI hN)) (by assumption) ?_
 try simp only [Act.put,List.setIfInBounds_toArray,List.set_cons_zero,List.set_cons_succ]
 refine oT 5 ?_;refine oR [6] ?_;refine oC (fun K hK => ?_) ?_
 · go_simp;go_at_call 125;refine (HTT _ HF0.drew).mono ?_;rintro e_a w_a ⟨R2,hq2,tv2,rfl,ht2,hf_a⟩;obtain ⟨V2,c2,vr2,vals2,rfl,hv2,hr2⟩ := ht2.low;obtain ⟨A2,c22,hv22⟩ := ad hr2.own;subst hv22;have F_a : Fr (fun j => j = w.heap.size + 1 + 1 + 1) W0 w_a := (hf_a.mono uu).drew_l;have G_a : Fr (fun _ => False) w w_a := HF0.trans' (show Fr (fun _ => False) W0 w_a from hf_a.drew_l);refine oK hK ?_ fun hHeld => ?_
   · try dsimp only
     exact HSX _ F_a
   clear hK K;refine oR [7] ?_;refine oC (fun K hK => ?_) ?_
   · go_simp;go_at_call 124;refine (HFE _ V2 m2 c2 R2.length A2 c22 (HQ _ hq2)).mono ?_;rintro e_b w_b ⟨rfl,hf_b⟩;have F_b : Fr (fun j => j = w.heap.size + 1 + 1 + 1) W0 w_b := F_a.trans hf_b uu;have G_b : Fr (fun _ => False) w w_b := G_a.trans' hf_b;refine oK hK ?_ fun hHeld => ?_
     · try dsimp only
       exact HSX _ F_b
     clear hK K;refine oR [8] ?_;refine oC (fun K hK => ?_) ?_
     · go_simp;go_at_call 123;refine (HJJ _ V2 c2 _ R2 G_b hq2 ⟨V2,c2,_,vals2,rfl,aa hv2 hf_b ii,hr2.frF hf_b⟩).mono ?_;rintro e_c w_c ⟨R3,hq3,tv3,rfl,⟨V3,c3,vr3,vals3,rfl,hv3,hr3⟩,hf_c⟩;obtain ⟨A3,c33,hv33⟩ := ad hr3.own;subst hv33;have F_c : Fr (fun j => j = w.heap.size + 1 + 1 + 1) W0 w_c := F_b.trans hf_c uu;have G_c : Fr (fun _ => False) w w_c := G_b.trans' hf_c;have hbs := HB3.fr (show Fr (fun _ => False) W0 w_c from (hf_a.drew_l.trans' hf_b).trans' hf_c) id;have f0 := hbs.frozen 0;have cc0 := hbs.c0;have HEND := Hd (di hbs G_b.size hv3 hr3 G_c jj);have cc1 := HEND.1;have f12 := HEND.2.1;refine oK hK ?_ fun hHeld => ?_
       · try dsimp only
         exact HSX _ F_c
       clear hK K;refine oR [9] ?_;refine oC (fun K hK => ?_) ?_
       · go_simp;have F_d : Fr (fun j => j = w.heap.size + 1 + 1 + 1) W0 ((w_c.setCell ⟨w.heap.size + 1 + 1 + 1,0,none⟩ (.slice V3 m3 c3)).setCell ⟨w.heap.size + 1 + 1 + 1,1,none⟩ (.slice A3 R3.length c33)) := (F_c.setCell ⟨w.heap.size + 1 + 1 + 1,0,none⟩ (fun _ => rfl) _).setCell ⟨w.heap.size + 1 + 1 + 1,1,none⟩ (fun _ => rfl) _;refine oK hK ?_ fun hHeld => ?_
         · try dsimp only
           exact HSX _ F_d
         clear hK K;refine oD (NoPanic.normal ?_);go_wp2_with fail;exact bodyPost_ret (v := .agg #[.slice V3 m3 c3,.slice A3 R3.length c33]) (results_cell_row rfl _ _ (w.heap.size + 1 + 1 + 1) 47 _ (0,0) _ rfl HEND.2.2.2.1 underlying47 rfl kr) rfl ⟨R3,hq3,HEND.2.2.2.2⟩
       exact .nil
     exact .nil
   exact .nil
 exact .nil
theorem yP : ∀ (L : List (List Value)) (j m : Nat),(∀ l ∈ L,l.length = 17) → m < 17 → L.flatten[j * 17 + m]? = (L[j]?).bind (fun l => l[m]?)
 | [],j,m,_,_ => by simp
 | a :: L,0,m,h,hm => by
  have ha := h a (by simp);rw [List.flatten_cons,Nat.zero_mul,Nat.zero_add,List.getElem?_append_left jj];rfl
 | a :: L,j + 1,m,h,hm => by
  have ha := h a (by simp);rw [List.flatten_cons,List.getElem?_append_right jj,show (j + 1) * 17 + m - a.length = j * 17 + m by omega,yP L j m (fun l hl => h l (by simp [hl])) hm];rfl
theorem mt {g : Nat} {L : List (List Value)} (h : w.ownsRow B 180 17 (.slice (some ⟨g,0,none⟩) n c) n L.flatten) (h3 : ∀ l ∈ L,l.length = 17) {j : Nat} {l : List Value} (hl : L[j]? = some l) : w.rangeAt g (j * 17) l := by
 intro m v hv;have hlen := h3 l (List.mem_of_getElem? hl);have hm : m < 17 := by have := (List.getElem?_eq_some_iff.1 hv).1; omega
 have hf := yP L j m h3 hm;rw [hl] at hf;have hf : L.flatten[j * 17 + m]? = some v := hf.trans hv;have hc := h.cells (g := g) rfl _ _ hf;rw [Addr.add_lit,Nat.zero_add] at hc;exact hc
theorem Fj (z : Array Value) (kk : Int) (hk : ¬ kk = 1) (hz : z[0]? = some (.int .i64 kk)) (p1 p2 p3 : Value) (w : World) : Calls prog 75 #[.agg z,p1,p2,p3] w fun e w' => e = .returned (.bool false) ∧ Fr (fun _ => False) w w' := by
 have hk' : (kk == 1) = false := by simpa using hk
 have c0 : (w.alloc (.cells z 180)).cell? ⟨w.heap.size,0,none⟩ = some (.int .i64 kk) := by rw [(Blk.new w 180 z).cell]; exact hz
 go_enter func75,ntmps75;go_wp2_with fail
 go_big_quiet (fail);go_wp2_with fail;go_ret;exact ⟨rfl,((Fr.refl _ _).alloc _).drewN _⟩
structure mu (w : World) (B n c : Nat) (A : Option Addr) (css : List (List Value)) : Prop where
 len : css.length = n
 row : w.ownsRow B 180 17 (.slice A n c) n css.flatten
 all : ∀ l ∈ css,l.length = 17 ∧ ∃ kk : Int,l[0]? = some (.int .i64 kk) ∧ ¬ kk = 1
theorem mu.frF {A : Option Addr} {css : List (List Value)} (h : mu w B n c A css) (hf : Fr (fun _ => False) w w') : mu w' B n c A css := ⟨h.len,aa h.row hf ii,h.all⟩
theorem tp : (prog.info? 180).map (·.size) = some 17 := Cx
theorem D9 (n c B : Nat) (A : Option Addr) (css : List (List Value)) (p1 p2 p3 : Value) (w : World) (hn : n ≤ 9) (hi : mu w B n c A css) : Calls prog 133 #[.slice A n c,.func (.func 75) #[] #[p1,p2,p3]] w fun e w' => e = .returned (.int .i64 (-1)) ∧ Fr (fun _ => False) w w' := by
 have HN := Hd (fun z kk hk hz w => Fj z kk hk hz p1 p2 p3 w);have HI := Hd hi;clear hi;go_enter func133,ntmps133;go_wp2_with fail
 go_loopw [8] (fun iv wr => ∃ k : Nat,iv = .int .i64 (k : Int) ∧ k ≤ n ∧ Fr (fun _ => False) w wr) (fun iv _ => n - (intOf iv).toNat)
 case atStart => exact ⟨0,rfl,Nat.zero_le _,Fr.refl _ _⟩
 case round =>
  obtain ⟨k,rfl,hk,hf⟩ := hrel;have HF := Hd hf;by_cases hlt : k < n
  · have hlt' : (k : Int) < (n : Int) := jj;have hiw := HI.frF hf;obtain ⟨g,rfl,_,_,_⟩ := ar hiw.row jj;obtain ⟨l,hl⟩ : ∃ l,css[k]? = some l := ⟨_,List.getElem?_eq_getElem (by rw [HI.out.len]; exact hlt)⟩;have hrg := mt hiw.row (fun l hl => (hiw.all l hl).1) hl;obtain ⟨hl17,kk,hk0,hk1⟩ := hiw.all l (List.mem_of_getElem? hl);have HNK := Hd (HN.out l.toArray kk hk1 (by simpa using hk0) wr);have HRG := Hd hrg;have HL := Hd (show (prog.info? 180).map (·.size) = some l.length by rw [hl17]; exact tp);clear hf hrg hiw hl hl17 hk0 hk1;go_wp2_with (refine wpList_load_mid rfl 180 _ rfl g (k * 17) rfl l _ HRG.out underlying180 rfl HL.out ?_);refine HNK.mono ?_;rintro e w2 ⟨rfl,hf2⟩;have HF2 := Hd (HF.trans' hf2);clear hf2;go_wp2_with fail;go_roundw
    case rel => exact ⟨k + 1,by go_num,by omega,HF2⟩
    case measure => simp only [intOf]; omega
  · have hlt' : ¬ (k : Int) < (n : Int) := jj;clear hf;go_wp2_with fail;go_ret;exact ⟨rfl,HF⟩
theorem Fl (n c B : Nat) (A : Option Addr) (css : List (List Value)) (p1 p2 p3 : Value) (w : World) (hn : n ≤ 9) (hi : mu w B n c A css) : Calls prog 74 #[.slice A n c,.func (.func 75) #[] #[p1,p2,p3]] w fun e w' => e = .returned (.bool false) ∧ Fr (fun _ => False) w w' := by
 have HI := Hd (D9 n c B A css p1 p2 p3 w hn hi);clear hi;go_enter func74,ntmps74;go_wp2_with fail;refine HI.mono ?_;rintro e w1 ⟨rfl,hf⟩;have HF := Hd hf;clear hf;go_wp2_with fail;go_ret;exact ⟨rfl,HF⟩
theorem Ea (gb m vc n c k rc nn cc B : Nat) (V A R G : Option Addr) (css : List (List Value)) (p : Value) (w : World) (hn : nn ≤ 9) (hi : mu w B nn cc G css) (hg : Blk w gb 30 #[.slice G nn cc]) :
    Calls prog 73 #[.agg #[.slice V m vc,.slice A n c],.slice R k rc,.pointer (some ⟨gb,0,none⟩),p] w (IsB true w) := by
 have F0 := Fr.a2 w (.cells #[.slice V m vc,.slice A n c] 47) (.cells #[.slice R k rc] 99);have HH := Hd (fun p1 p2 p3 => Fl nn cc B G css p1 p2 p3 _ hn (hi.frF F0));have g0 := hg.c0;have hg1 := hg.lt;have HF0 := Hd F0;clear hg hi F0;go_enter func73,ntmps73;go_wp2_with fail;refine (HH _ _ _).mono ?_;rintro e w1 ⟨rfl,hf⟩;have HF := Hd (HF0.trans' hf);clear hf;go_wp2_with fail;go_ret;exact ⟨rfl,HF⟩
structure GLp (w wr : World) (tb eb nn cc : Nat) (G : Option Addr) (M : Nat → Nat) (SS : Nat → List ByteArray) (Q : Nat → List (List Int) → Prop) (i : Nat) (V : Option Addr) (vc : Nat) (vr : Value) (vals : List Value) (R : List (List Int)) : Prop where
 q : Q i R
 tab : Blk wr tb 47 #[.slice V (M i) vc,vr]
 vars : wr.ownsRow 0 9 1 (.slice V (M i) vc) (M i) ((SS i).map .string)
 rows : ak wr 0 vr vals R
 box : Blk wr w.heap.size 93 #[.pointer (some ⟨eb,0,none⟩)]
 grp : Blk wr (w.heap.size + 1) 30 #[.slice G nn cc]
 res : Blk wr (w.heap.size + 1 + 1) 47 #[.slice none 0 0,.slice none 0 0]
 fr : Fr (fun _ => False) w wr
theorem GLp.step {wr w5 : World} {tb eb nn cc : Nat} {G : Option Addr} {M : Nat → Nat} {SS : Nat → List ByteArray} {Q : Nat → List (List Int) → Prop} {V V5 : Option Addr} {vc vc5 : Nat} {vr vr5 : Value} {vals vals5 : List Value} {R5 : List (List Int)} (h : GLp w wr tb eb nn cc G M SS Q i V vc vr vals R) (htb : w.heap.size + 1 + 1 < tb) (hf : Fr (fun _ => False) wr w5) (hq : Q (i + 1) R5)
    (hv : w5.ownsRow B 9 1 (.slice V5 (M (i + 1)) vc5) (M (i + 1)) ((SS (i + 1)).map .string)) (hr : ak w5 B vr5 vals5 R5) :
    Blk w5 tb 47 #[.slice V (M i) vc,vr] ∧ GLp w ((w5.setCell ⟨tb,0,none⟩ (.slice V5 (M (i + 1)) vc5)).setCell ⟨tb,1,none⟩ vr5) tb eb nn cc G M SS Q (i + 1) V5 vc5 vr5 vals5 R5 := by
 have ht5 := h.tab.fr hf id;have FS : Fr (fun j => j = tb) w5 ((w5.setCell ⟨tb,0,none⟩ (.slice V5 (M (i + 1)) vc5)).setCell ⟨tb,1,none⟩ vr5) := ((Fr.refl (fun j => j = tb) w5).setCell ⟨tb,0,none⟩ (fun _ => rfl) _).setCell ⟨tb,1,none⟩ (fun _ => rfl) _;refine ⟨ht5,hq,(ht5.set_ 0 _).set_ 1 _,ai (aa hv FS (fun k hk e => ac hv ht5 de (by rw [hk,e]))) (Nat.zero_le _),(hr.frB ht5 de de FS).base (Nat.zero_le _),(h.box.fr hf id).fr FS (by omega),(h.grp.fr hf id).fr FS (by omega),(h.res.fr hf id).fr FS (by omega),(h.fr.trans' hf).trans FS (fun j hj e => by omega)⟩
theorem uG (eb db sb : Nat) (ma : Option Nat) (G : Option Addr) (nn cc Bg : Nat) (css : List (List Value)) (M : Nat → Nat) (SS : Nat → List ByteArray) (Q : Nat → List (List Int) → Prop) (d s mp : Value) (w : World) (hE : Blk w eb 95 #[d,s,mp,.int .i64 0]) (hn : nn ≤ 9) (hi : mu w Bg nn cc G css) (hC : ∀ l ∈ css,aY 17 l.toArray) (h0 : M 0 = 0 ∧ SS 0 = [] ∧ Q 0 [[]]) (hMn : 0 < M nn) (hM9 : M nn ≤ 9)
    (hQ : ∀ R,Q nn R → R.length ≤ 4096 ∧ ∀ k,k < R.length → (R.getD k []).length = M nn)
    (HI : ∀ (i : Nat) l,css[i]? = some l → ∀ W V c vr R,Fr (fun _ => False) w W → Q i R → aL W 0 (M i) (.agg #[.slice V (M i) c,vr]) (SS i) R → Calls prog 72 #[.pointer (some ⟨eb,0,none⟩),.agg #[.slice V (M i) c,vr],.agg l.toArray,fromV db sb ma] W (cS (Q (i + 1)) (M (i + 1)) (SS (i + 1)) W)) :
    Calls prog 26 #[.pointer (some ⟨eb,0,none⟩),.agg #[.slice G nn cc],fromV db sb ma] w (cS (Q nn) (M nn) (SS nn) w) := by
 obtain ⟨W0,hW0⟩ : ∃ W0,W0 = ((w.alloc (.cells #[.pointer (some ⟨eb,0,none⟩)] 93)).alloc (.cells #[.slice G nn cc] 30)).alloc (.cells #[.slice none 0 0,.slice none 0 0] 47) := ⟨_,rfl⟩;have hf0 : Fr (fun _ => False) w W0 := by rw [hW0]; exact (((Fr.refl _ w).alloc _).alloc _).alloc _
 have e1 := al1 w (.cells #[.pointer (some ⟨eb,0,none⟩)] 93);have e2 := al2 w (.cells #[.pointer (some ⟨eb,0,none⟩)] 93) (.cells #[.slice G nn cc] 30);have b0 : Blk W0 w.heap.size 93 #[.pointer (some ⟨eb,0,none⟩)] := by rw [hW0]; exact ((Blk.new w 93 _).alloc _).alloc _
 have b1 : Blk W0 (w.heap.size + 1) 30 #[.slice G nn cc] := by rw [hW0,← e1]; exact (Blk.new _ 30 _).alloc _
 have b2 : Blk W0 (w.heap.size + 1 + 1) 47 #[.slice none 0 0,.slice none 0 0] := by rw [hW0,← e2]; exact Blk.new _ 47 _
 have hsz : W0.heap.size = w.heap.size + 3 := by rw [hW0]; simp
 have hu := qf W0;unfold qe at hu;have HU := Hd hu;have HB0 := Hd b0;have HB1 := Hd b1;have HB2 := Hd b2;have HF0 := Hd hf0;have HW := Hd hW0;have HE := Hd hE;have HIT := Hd hi;have HQQ := Hd hQ;have HII := Hd HI;have H0 := Hd h0;have HC := Hd hC;have HML := Hd (And.intro hMn hM9);unfold cS aQ at HII;have HPOST := Hd (show ∀ e w',cS (Q nn) (M nn) (SS nn) w e w' → cS (Q nn) (M nn) (SS nn) w e w' from fun _ _ h => h);clear hE hi hC h0 hQ HI hMn hM9 hf0 e1 e2 b0 b1 b2 hW0 hu;go_enter func26,ntmps26;go_wp2_with fail;rw [← HW.out];refine HU.mono ?_;rintro e w1 ⟨vr,vals,rfl,hr1,hf1⟩;have HST := Hd (show GLp w (w1.alloc (.cells #[.slice none 0 0,vr] 47)) w1.heap.size eb nn cc G M SS Q 0 none 0 vr vals [[]] from
  ⟨H0.2.2,by rw [H0.out.1]; exact Blk.new _ _ _,by rw [H0.out.1,H0.out.2.1]; exact World.ownsRow_nil _ _ _ _,(hr1.frF ((Fr.refl _ _).alloc _)).base (Nat.zero_le _),(HB0.fr hf1 id).alloc _,(HB1.fr hf1 id).alloc _,(HB2.fr hf1 id).alloc _,(HF0.trans' hf1).alloc _⟩)
 have g0 := HST.grp.c0;have g0' := (HB1.fr hf1 id).c0;have hsz1 := hf1.size;have hgl : w.heap.size + 1 < w1.heap.size := jj;have htb : w.heap.size + 1 + 1 < w1.heap.size := jj;obtain ⟨A1,c1,hvr⟩ := ad hr1.own;subst hvr;clear hr1 hf1;go_wp2_with fail;generalize hWl : w1.alloc (.cells #[.slice none 0 0,.slice A1 1 c1] 47) = Wl at *;have hWls : w1.heap.size + 1 = Wl.heap.size := by rw [← hWl]; simp
 have HW1S := Hd (And.intro hWls htb);generalize htbe : w1.heap.size = tb at *;clear hWl htbe
 go_loopw [14] (fun iv wr => ∃ (i : Nat) (V : Option Addr) (vc : Nat) (vr : Value) (vals : List Value) (R : List (List Int)),iv = .int .i64 (i : Int) ∧ i ≤ nn ∧ GLp w wr tb eb nn cc G M SS Q i V vc vr vals R) (fun iv _ => nn - (intOf iv).toNat)
 case atStart => exact ⟨0,_,_,_,_,_,rfl,Nat.zero_le _,HST⟩
 case round =>
  obtain ⟨i,V,vc,vr,vals,R,rfl,hi,hG⟩ := hrel;have HG := Hd hG;obtain ⟨A2,c2,hvr⟩ := ad hG.rows.own;subst hvr;by_cases hlt : i < nn
  · have hlt' : (i : Int) < (nn : Int) := jj;have hiw := HIT.frF hG.fr;obtain ⟨g,rfl,_,_,_⟩ := ar hiw.row jj;obtain ⟨l,hl⟩ : ∃ l,css[i]? = some l := ⟨_,List.getElem?_eq_getElem (by rw [HIT.out.len]; exact hlt)⟩;have hrg := mt hiw.row (fun l hl => (hiw.all l hl).1) hl;obtain ⟨hl17,kk,hk0,hk1⟩ := hiw.all l (List.mem_of_getElem? hl);have HRG := Hd hrg;have HL := Hd (show (prog.info? 180).map (·.size) = some l.length by rw [hl17]; exact tp);have HLC := Hd (HC.out l (List.mem_of_getElem? hl));have HK0 := Hd hk0;have HIi := Hd (fun W V c vr R h1 h2 h3 => HII.out i l hl W V c vr R h1 h2 h3);have hk3 : (kk != 1) = true := by simpa using hk1
    have HLZ := Hd (show (prog.info? 180).map (·.size) = some l.toArray.size by rw [List.size_toArray,hl17]; exact tp);have HS17 := Hd (show l.toArray.size = Z68.size by rw [List.size_toArray,hl17]; rfl);clear hG hiw hl hrg hl17 hk0;go_wp2_with (first | (refine wpList_load_mid rfl 180 _ rfl g (i * 17) rfl l _ HRG.out underlying180 rfl HL.out ?_) | ((with_reducible change wpList _ _ _ (Oper.mk _ (.alloc 180) _ _ _ _ :: _) _ _); refine bU rfl 180 rfl Z68 lX ?_));refine Hd ?_;rintro w2 z0 HZ0 HY0 HF0 hs0;obtain rfl := HZ0.out;go_wp2_with ((with_reducible change wpList _ _ _ (Oper.mk _ (.store 180 _ _) _ _ _ _ :: _) _ _); refine ao rfl 180 _ _ rfl _ l.toArray rfl rfl 180 _ HY0.out HS17.out HLZ.out HLC.one ?_);refine Hd ?_;rintro w3 hY3 hF3;have F3 := HF0.trans hF3 (fun j hj e => by omega);have G3 := HG.out;have k0 : w3.cell? ⟨wr.heap.size,0,none⟩ = some (.int .i64 kk) := by rw [hY3.cell]; simpa using HK0.out
    have x3 := (G3.box.fr F3 id).c0;have e3 := ((HE.fr G3.fr id).fr F3 id).c3;have t0 := (G3.tab.fr F3 id).c0;have t1 := (G3.tab.fr F3 id).c1;have HCALL := Hd (HIi.out w3 V vc (.slice A2 R.length c2) R (G3.fr.trans' F3) G3.q ⟨V,vc,_,vals,rfl,aa G3.vars F3 ii,G3.rows.frF F3⟩);have HF3 := Hd F3;have HY3 := Hd hY3;clear F3 G3 hY3 hF3 HZ0;go_wp2_with (first | ((with_reducible change wpList _ _ _ (Oper.mk _ (.load 180 _) _ _ _ _ :: _) _ _); refine aD rfl 180 _ rfl _ rfl 180 l.toArray HY3 _ underlying180 rfl HLZ.out ?_));refine HCALL.mono ?_;rintro e w4 ⟨R5,hq5,tv,rfl,⟨V5,vc5,vr5,vals5,rfl,hv5,hr5⟩,hf5⟩;have HS5 := Hd (HG.step HW1S.2 (HF3.trans' hf5) hq5 hv5 hr5);obtain ⟨A5,c5,hvr⟩ := ad hr5.own;subst hvr;have hb2 := HS5.1.set_ 0 (.slice V5 (M (i + 1)) vc5);have c0 := HS5.1.cell 0;have fz0 := HS5.1.frozen 0;have c1' := hb2.cell 1;have fz1 := hb2.frozen 1;clear hb2 hv5 hr5 hf5;go_wp2_with fail;go_roundw
    case rel => exact ⟨i + 1,_,_,_,_,_,by go_num,by omega,HS5.2⟩
    case measure => simp only [intOf]; omega
  · have hlt' : ¬ (i : Int) < (nn : Int) := jj;obtain rfl : i = nn := jj;have hq := HQQ.out R hG.q;have hml := HML.out;have HFIL := Hd (fun W (h : Fr (fun _ => False) wr W) => lk 73 #[.pointer (some ⟨w.heap.size + 1,0,none⟩),.pointer (some ⟨w.heap.size,0,none⟩)] (M i) vc 0 0 V (.slice A2 R.length c2) vals R (SS i) W jj (by omega) hq.1 hq.2 (aa HG.vars h ii) (HG.rows.frF h) (fun _ _ => rfl)
     (fun w1 k hk hf => by
      obtain ⟨A6,c6,e6⟩ := ad (HG.rows.each k hk);have hsz6 := h.size;have FF := (HG.fr.trans' h).trans hf (fun j hj e => by have := (HG.fr.trans' h).size; omega);rw [e6];exact Ea (w.heap.size + 1) (M i) vc R.length c2 _ c6 i cc Bg V A2 A6 G css _ w1 jj (HIT.frF FF) (((HG.grp.fr h id).fr hf (fun e => by have := HG.grp.lt; omega)))))
    have t0 := HG.tab.cell 0;have t1 := HG.tab.cell 1;clear hG hq;go_wp2_with fail;refine (HFIL.out wr (Fr.refl _ _)).mono ?_;rintro e w5 ⟨V5,vc5,vr5,vals5,rfl,_,hv5,hr5,hf5⟩;obtain ⟨A5,c5,hvr⟩ := ad hr5.own;subst hvr;have hfr := HG.fr.size;have hres5 := HG.res.fr hf5 id;have hq9 := HG.q;have HEND := Hd (di hres5 hfr hv5 hr5 (HG.fr.trans' hf5) jj);have c0 := hres5.cell 0;have fz0 := hres5.frozen 0;have c1' := HEND.1;have fz1 := HEND.2.1;have HQ9 := Hd hq9;clear hv5 hr5 hf5 hres5 hq9;go_wp2_with fail;exact bodyPost_ret (v := .agg #[.slice V5 (M i) vc5,.slice A5 R.length c5]) (results_cell_row rfl _ _ (w.heap.size + 1 + 1) 47 _ (0,0) _ rfl HEND.2.2.2.1 underlying47 rfl kr) rfl (HPOST _ _ ⟨R,HQ9,HEND.2.2.2.2⟩)
def LU (w wr : World) (X : Nat) (Q : List (List Int) → Prop) (m : Nat) (ss : List ByteArray) : Prop :=
 ∃ (V : Option Addr) (vc : Nat) (A : Option Addr) (c : Nat) (vals : List Value) (R : List (List Int)),Q R ∧ Blk wr X 47 #[.slice V m vc,.slice A R.length c] ∧ wr.ownsRow 0 9 1 (.slice V m vc) m (ss.map .string) ∧ ak wr 0 (.slice A R.length c) vals R ∧ Fr (fun _ => False) w wr
theorem ce {a : Addr} {v : Value} (h : w.cell? a = some v) (e : w'.heap = w.heap) : w'.cell? a = some v := by rw [← h]; unfold World.cell?; rw [e]
theorem tq (eb db sb : Nat) (ma : Option Nat) (mA ca m1 m2 mU m3 : Nat) (VA : Option Addr) (vra : Value) (s1 s2 sU s3 : List ByteArray) (Q1 Q2 QU Q3 : List (List Int) → Prop) (d s mp : Value) (z : Array Value) (GG G1 G2 : Option Addr) (gc gn1 gc1 gn2 gc2 Bg : Nat) (w : World) (hE : Blk w eb 95 #[d,s,mp,.int .i64 0]) (hN : aY 17 z) (hz0 : z[0]? = some (.int .i64 4)) (hz16 : z[16]? = some (.slice GG 2 gc)) (hva : ∃ A n c,vra = .slice A n c)
    (hgr : w.ownsRow Bg 30 1 (.slice GG 2 gc) 2 [.slice G1 gn1 gc1,.slice G2 gn2 gc2])
    (H1 : ∀ W,Fr (fun _ => False) w W → Calls prog 26 #[.pointer (some ⟨eb,0,none⟩),.agg #[.slice G1 gn1 gc1],fromV db sb ma] W (cS Q1 m1 s1 W))
    (H2 : ∀ W,Fr (fun _ => False) w W → Calls prog 26 #[.pointer (some ⟨eb,0,none⟩),.agg #[.slice G2 gn2 gc2],fromV db sb ma] W (cS Q2 m2 s2 W))
    (HU : ∀ W V1 c1 vr1 R1 V2 c2 vr2 R2,Fr (fun _ => False) w W → Q1 R1 → Q2 R2 → aL W 0 m1 (.agg #[.slice V1 m1 c1,vr1]) s1 R1 → aL W 0 m2 (.agg #[.slice V2 m2 c2,vr2]) s2 R2 → Calls prog 132 #[.agg #[.slice V1 m1 c1,vr1],.agg #[.slice V2 m2 c2,vr2]] W (cS QU mU sU W)) (hQU : ∀ R,QU R → R.length ≤ 4096)
    (HJ : ∀ W V2 c2 vr2 R2,Fr (fun _ => False) w W → QU R2 → aL W 0 mU (.agg #[.slice V2 mU c2,vr2]) sU R2 → Calls prog 123 #[.pointer (some ⟨eb,0,none⟩),.agg #[.slice VA mA ca,vra],.agg #[.slice V2 mU c2,vr2]] W (cS Q3 m3 s3 W)) :
    Calls prog 72 #[.pointer (some ⟨eb,0,none⟩),.agg #[.slice VA mA ca,vra],.agg z,fromV db sb ma] w (cS Q3 m3 s3 w) := by
 obtain ⟨AA,na,caa,rfl⟩ := hva;obtain ⟨g,rfl,_,_,hgc⟩ := ar hgr de;obtain ⟨W0,hW0⟩ : ∃ W0,W0 = (((w.alloc (.cells #[.pointer (some ⟨eb,0,none⟩)] 93)).alloc (.cells #[.slice VA mA ca,.slice AA na caa] 47)).alloc (.cells z 180)).alloc (.cells #[.slice none 0 0,.slice none 0 0] 47) := ⟨_,rfl⟩;have hf0 : Fr (fun _ => False) w W0 := by rw [hW0]; exact ((((Fr.refl _ w).alloc _).alloc _).alloc _).alloc _
 have e1 := al1 w (.cells #[.pointer (some ⟨eb,0,none⟩)] 93);have e2 := al2 w (.cells #[.pointer (some ⟨eb,0,none⟩)] 93) (.cells #[.slice VA mA ca,.slice AA na caa] 47);have e3 := al3 w (.cells #[.pointer (some ⟨eb,0,none⟩)] 93) (.cells #[.slice VA mA ca,.slice AA na caa] 47) (.cells z 180);have b0 : Blk W0 w.heap.size 93 #[.pointer (some ⟨eb,0,none⟩)] := by rw [hW0]; exact (((Blk.new w 93 _).alloc _).alloc _).alloc _
 have b1 : Blk W0 (w.heap.size + 1) 47 #[.slice VA mA ca,.slice AA na caa] := by rw [hW0,← e1]; exact ((Blk.new _ 47 _).alloc _).alloc _
 have b2 : Blk W0 (w.heap.size + 1 + 1) 180 z := by rw [hW0,← e2]; exact (Blk.new _ 180 _).alloc _
 have b3 : Blk W0 (w.heap.size + 1 + 1 + 1) 47 #[.slice none 0 0,.slice none 0 0] := by rw [hW0,← e3]; exact Blk.new _ 47 _
 have hgW : W0.ownsRow Bg 30 1 (.slice (some ⟨g,0,none⟩) 2 gc) 2 [.slice G1 gn1 gc1,.slice G2 gn2 gc2] := aa hgr hf0 ii;have HSX := Hd (show ∀ wy,Fr (fun _ => False) W0 wy → wy.cell? ⟨w.heap.size,0,none⟩ = some (.pointer (some ⟨eb,0,none⟩)) ∧ wy.cell? ⟨w.heap.size + 1,0,none⟩ = some (.slice VA mA ca) ∧ wy.cell? ⟨w.heap.size + 1,1,none⟩ = some (.slice AA na caa) ∧ wy.cell? ⟨w.heap.size + 1 + 1,16,none⟩ = some (.slice (some ⟨g,0,none⟩) 2 gc) ∧ wy.cell? ⟨g,0,none⟩ = some (.slice G1 gn1 gc1) ∧ wy.cell? ⟨g,1,none⟩ = some (.slice G2 gn2 gc2) from
  fun wy hf => by
   have hr := aa hgW hf ii;exact ⟨(b0.fr hf (fun e => e)).cell 0,(b1.fr hf (fun e => e)).cell 0,(b1.fr hf (fun e => e)).cell 1,by rw [(b2.fr hf (fun e => e)).cell]; exact hz16,World.ownsRow.cellAt hr 0 de,World.ownsRow.cellAt hr 1 de⟩)

 have HB3 := Hd b3;have HF0 := Hd hf0;have HH1 := Hd H1;have HH2 := Hd H2;have HUU := Hd HU;have HJJ := Hd HJ;have HQ := Hd hQU;unfold cS aQ at HH1 HH2 HUU HJJ;have HW := Hd hW0;have HFE := Hd (fun W V m vc n A c (h : n ≤ 4096) => xK (some ⟨eb,0,none⟩) V A m vc n c W jj);clear hE hf0 e1 e2 e3 b0 b1 b2 b3 H1 H2 HU HJ hQU hW0 hz16 hgr hgW;go_enter func72,ntmps72;go_wp2_with fail;rw [← HW.out];clear hz0
 go_cut [11] from 11 to 80 (fun c11 wx => ∃ (X : Nat) (V1 : Option Addr) (c1 : Nat) (A1 : Option Addr) (c11' : Nat) (vals1 : List Value) (R1 : List (List Int)),c11 = .pointer (some ⟨X,0,none⟩) ∧ W0.heap.size ≤ X ∧ Q1 R1 ∧ Blk wx X 47 #[.slice V1 m1 c1,.slice A1 R1.length c11'] ∧ wx.ownsRow 0 9 1 (.slice V1 m1 c1) m1 (s1.map .string) ∧ ak wx 0 (.slice A1 R1.length c11') vals1 R1 ∧ Fr (fun _ => False) W0 wx)
 case first =>
  refine wp_region_noPanic ?_;refine wp_region_held_drew (S := (fun wy => wy.cell? ⟨w.heap.size,0,none⟩ = some (.pointer (some ⟨eb,0,none⟩)) ∧ wy.cell? ⟨w.heap.size + 1,0,none⟩ = some (.slice VA mA ca) ∧ wy.cell? ⟨w.heap.size + 1,1,none⟩ = some (.slice AA na caa) ∧ wy.cell? ⟨w.heap.size + 1 + 1,16,none⟩ = some (.slice (some ⟨g,0,none⟩) 2 gc) ∧ wy.cell? ⟨g,0,none⟩ = some (.slice G1 gn1 gc1) ∧ wy.cell? ⟨g,1,none⟩ = some (.slice G2 gn2 gc2))) kr ?_ (fun hHeld => ?_)
  · try dsimp only
    exact HSX _ (Fr.refl (fun _ => False) W0).drew
  refine oT 0 ?_;refine oT 1 ?_;refine oT 2 ?_;refine oT 3 ?_;refine oT 4 ?_;refine oT 5 ?_;refine oR [6,7] ?_;refine oC (fun K hK => ?_) ?_
  · go_simp;go_at_call 26;refine (HH1 _ HF0.drew).mono ?_;rintro e_a w_a ⟨R1,hq1,tv1,rfl,ht1,hf_a⟩;obtain ⟨V1,c1,vr1,vals1,rfl,hv1,hr1⟩ := ht1.low;obtain ⟨A1,c11,hv11⟩ := ad hr1.own;subst hv11;have F_a : Fr (fun _ => False) W0 w_a := hf_a.drew_l;refine oK hK ?_ fun hHeld => ?_
    · try dsimp only
      exact HSX _ F_a
    clear hK K;refine oR [7] ?_;refine oC (fun K hK => ?_) ?_
    · go_simp;refine oK hK ?_ fun hHeld => ?_
      · try dsimp only
        exact HSX _ (F_a.alloc _)
      clear hK K;refine oR [8] ?_;refine oC (fun K hK => ?_) ?_
      · go_simp;have F_e : Fr (fun _ => False) W0 (w_a.alloc (.cells #[.slice V1 m1 c1,.slice A1 R1.length c11] 47)) := F_a.alloc _;refine oK hK ?_ fun hHeld => ?_
        · try dsimp only
          exact HSX _ F_e
        clear hK K;refine oD (NoPanic.normal ?_);go_wp2_with fail;go_meet;exact ⟨w_a.heap.size,V1,c1,A1,c11,vals1,R1,rfl,F_a.size,hq1,Blk.new _ _ _,aa hv1 ((Fr.refl (fun _ => False) w_a).alloc _) ii,hr1.frF ((Fr.refl _ _).alloc _),F_e⟩
      exact .nil
    exact .nil
  refine oC (fun K hK => ?_) ?_
  · go_simp;refine oK hK ?_ fun hHeld => ?_
    · try dsimp only
      exact HSX _ ((Fr.refl (fun _ => False) W0).drew.alloc _)
    clear hK K;refine oR [6] ?_;refine oC (fun K hK => ?_) ?_
    · go_simp;go_at_call 26;refine (HH1 _ (HF0.drew.alloc _)).mono ?_;rintro e_a w_a ⟨R1,hq1,tv1,rfl,ht1,hf_a⟩;obtain ⟨V1,c1,vr1,vals1,rfl,hv1,hr1⟩ := ht1.low;obtain ⟨A1,c11,hv11⟩ := ad hr1.own;subst hv11;have F_a : Fr (fun _ => False) W0 w_a := ((Fr.refl (fun _ => False) W0).drew.alloc _).trans' hf_a;have hbx := (Blk.new W0.drew 47 #[.slice none 0 0,.slice none 0 0]).fr hf_a id;rw [show W0.drew.heap.size = W0.heap.size from rfl] at hbx;have hb2 := hbx.set_ 0 (.slice V1 m1 c1);have c0 := hbx.cell 0;have fz0 := hbx.frozen 0;have c1' := hb2.cell 1;have fz1 := hb2.frozen 1;refine oK hK ?_ fun hHeld => ?_
      · try dsimp only
        exact HSX _ F_a
      clear hK K;refine oR [8] ?_;refine oC (fun K hK => ?_) ?_
      · go_simp;have F_e : Fr (fun _ => False) W0 ((w_a.setCell ⟨W0.heap.size,0,none⟩ (.slice V1 m1 c1)).setCell ⟨W0.heap.size,1,none⟩ (.slice A1 R1.length c11)) := F_a.trans (((Fr.refl (fun j => j = W0.heap.size) w_a).setCell ⟨W0.heap.size,0,none⟩ (fun _ => rfl) _).setCell ⟨W0.heap.size,1,none⟩ (fun _ => rfl) _) (fun j hj e => by omega);refine oK hK ?_ fun hHeld => ?_
        · try dsimp only
          exact HSX _ F_e
        clear hK K;refine oD (NoPanic.normal ?_);go_wp2_with fail;go_meet;have FS : Fr (fun j => j = W0.heap.size) w_a ((w_a.setCell ⟨W0.heap.size,0,none⟩ (.slice V1 m1 c1)).setCell ⟨W0.heap.size,1,none⟩ (.slice A1 R1.length c11)) := ((Fr.refl (fun j => j = W0.heap.size) w_a).setCell ⟨W0.heap.size,0,none⟩ (fun _ => rfl) _).setCell ⟨W0.heap.size,1,none⟩ (fun _ => rfl) _;exact ⟨W0.heap.size,V1,c1,A1,c11,vals1,R1,rfl,Nat.le_refl _,hq1,hb2.set_ 1 _,aa hv1 FS (fun k hk e => ac hv1 hbx de (by rw [hk,e])),hr1.frB hbx de de FS,F_e⟩
      exact .nil
    exact .nil
  exact .nil
 case rest =>
  obtain ⟨X,V1,c1,A1,c11',vals1,R1,rfl,hX,hq1,hbx,hv1,hr1,hf⟩ := hcut;have HST := Hd (show LU W0 wc X Q1 m1 s1 from ⟨V1,c1,A1,c11',vals1,R1,hq1,hbx,hv1,hr1,hf⟩);have z16 : wc.cell? ⟨w.heap.size + 1 + 1,16,none⟩ = some (.slice (some ⟨g,0,none⟩) 2 gc) := (HSX.out wc hf).2.2.2.1;clear hq1 hbx hv1 hr1 hf;go_wp2_with fail
  go_loopw [85] (fun iv wr => (iv = .int .i64 0 ∧ LU W0 wr X Q1 m1 s1) ∨ (iv = .int .i64 1 ∧ LU W0 wr X QU mU sU)) (fun iv _ => 1 - (intOf iv).toNat)
  case atStart => exact .inl ⟨rfl,HST⟩
  case round =>
   rcases hrel with ⟨rfl,V1,c1,A1,c11',vals1,R1,hq1,hbx,hv1,hr1,hf⟩ | ⟨rfl,V1,c1,A1,c11',vals1,R1,hq1,hbx,hv1,hr1,hf⟩
   · have hc := HSX.out wr hf;have g1 : wr.cell? ⟨g,1,none⟩ = some (.slice G2 gn2 gc2) := hc.2.2.2.2.2;have F1 : Fr (fun _ => False) W0 (wr.alloc (.cells #[.slice G2 gn2 gc2] 30)) := hf.alloc _;have HLU := Hd (show LU W0 (wr.alloc (.cells #[.slice G2 gn2 gc2] 30)) X Q1 m1 s1 from ⟨V1,c1,A1,c11',vals1,R1,hq1,hbx.alloc _,aa hv1 ((Fr.refl (fun _ => False) wr).alloc _) ii,hr1.frF ((Fr.refl _ _).alloc _),F1⟩);have HNB := Hd (Blk.new wr 30 #[.slice G2 gn2 gc2]);have hxl := hbx.lt;clear hc hq1 hbx hv1 hr1 hf F1
     go_upto_region 17 with fail
     obtain ⟨W7,hW7⟩ : ∃ W7,W7 = wr.alloc (.cells #[.slice G2 gn2 gc2] 30) := ⟨_,rfl⟩;rw [← hW7] at HLU HNB ⊢;clear hW7;obtain ⟨V1,c1,A1,c11',vals1,R1,hq1,hbx,hv1,hr1,hf⟩ := HLU.out;have cx0 := hbx.c0;have cx1 := hbx.c1;have HBX := Hd hbx;have HV1 := Hd hv1;have HR1 := Hd hr1;have HF := Hd hf;have HQ1 := Hd hq1;have HSY := Hd (show ∀ wy,Fr (fun j => j = X) W7 wy → wy.cell? ⟨w.heap.size,0,none⟩ = some (.pointer (some ⟨eb,0,none⟩)) ∧ wy.cell? ⟨wr.heap.size,0,none⟩ = some (.slice G2 gn2 gc2) from fun wy h => ⟨(HSX.out wy (hf.trans h (fun j hj e => by omega))).1,(HNB.fr h (by omega)).cell 0⟩);clear hq1 hbx hv1 hr1 hf g1;refine wp_region_noPanic ?_;refine wp_region_held_drew (S := (fun wy => wy.cell? ⟨w.heap.size,0,none⟩ = some (.pointer (some ⟨eb,0,none⟩)) ∧ wy.cell? ⟨wr.heap.size,0,none⟩ = some (.slice G2 gn2 gc2))) kr ?_ (fun hHeld => ?_)
     · try dsimp only
       exact HSY _ (Fr.refl (fun j => j = X) W7).drew
     refine oT 0 ?_;refine oT 2 ?_;refine oT 3 ?_;refine oT 4 ?_;refine oR [1,5] ?_;refine oC (fun K hK => ?_) ?_
     · go_simp;refine oK hK ?_ fun hHeld => ?_
       · try dsimp only
         exact HSY _ (Fr.refl (fun j => j = X) W7).drew
       clear hK K;refine oR [5] ?_;refine oC (fun K hK => ?_) ?_
       · go_simp;go_at_call 26;refine (HH2 _ (HF0.trans' HF).drew).mono ?_;rintro e_a w_a ⟨R2,hq2,tv2,rfl,ht2,hf_a⟩;obtain ⟨V2,c2,vr2,vals2,rfl,hv2,hr2⟩ := ht2.low;obtain ⟨A2,c22,hv22⟩ := ad hr2.own;subst hv22;have F_a : Fr (fun _ => False) W7 w_a := hf_a.drew_l;have cy0 := (HBX.fr F_a id).c0;have cy1 := (HBX.fr F_a id).c1;refine oK hK ?_ fun hHeld => ?_
         · try dsimp only
           exact HSY _ (F_a.mono uu)
         clear hK K;refine oR [6] ?_;refine oC (fun K hK => ?_) ?_
         · go_simp;go_at_call 132;refine (HUU _ V1 c1 _ R1 V2 c2 _ R2 ((HF0.trans' HF).trans' F_a) HQ1.out hq2 ⟨V1,c1,_,vals1,rfl,aa HV1.out F_a ii,HR1.frF F_a⟩ ⟨V2,c2,_,vals2,rfl,hv2,hr2⟩).mono ?_;rintro e_b w_b ⟨R3,hq3,tv3,rfl,ht3,hf_b⟩;obtain ⟨V3,c3,vr3,vals3,rfl,hv3,hr3⟩ := ht3.low;obtain ⟨A3,c33,hv33⟩ := ad hr3.own;subst hv33;have G_b : Fr (fun _ => False) W7 w_b := F_a.trans' hf_b;refine oK hK ?_ fun hHeld => ?_
           · try dsimp only
             exact HSY _ (G_b.mono uu)
           clear hK K;refine oR [7] ?_;refine oC (fun K hK => ?_) ?_
           · go_simp;go_at_call 124;refine (HFE _ V3 mU c3 R3.length A3 c33 (HQ _ hq3)).mono ?_;rintro e_c w_c ⟨rfl,hf_c⟩;have G_c : Fr (fun _ => False) W7 w_c := G_b.trans' hf_c;have hbc := HBX.fr G_c id;have hb2 := hbc.set_ 0 (.slice V3 mU c3);have cc0 := hbc.cell 0;have fz0 := hbc.frozen 0;have cc1 := hb2.cell 1;have fz1 := hb2.frozen 1;have hv4 := aa hv3 hf_c ii;have hr4 := hr3.frF hf_c;refine oK hK ?_ fun hHeld => ?_
             · try dsimp only
               exact HSY _ (G_c.mono uu)
             clear hK K;refine oR [8] ?_;refine oC (fun K hK => ?_) ?_
             · go_simp;have FS : Fr (fun j => j = X) w_c ((w_c.setCell ⟨X,0,none⟩ (.slice V3 mU c3)).setCell ⟨X,1,none⟩ (.slice A3 R3.length c33)) := ((Fr.refl (fun j => j = X) w_c).setCell ⟨X,0,none⟩ (fun _ => rfl) _).setCell ⟨X,1,none⟩ (fun _ => rfl) _;have F_d := (G_c.mono (T := fun j => j = X) uu).trans FS ii;refine oK hK ?_ fun hHeld => ?_
               · try dsimp only
                 exact HSY _ F_d
               clear hK K;refine oD (NoPanic.normal ?_);go_wp2_with fail;go_roundw
               case rel => exact .inr ⟨rfl,V3,c3,A3,c33,vals3,R3,hq3,hb2.set_ 1 _,aa hv4 FS (fun k hk e => ac hv4 hbc de (by rw [hk,e])),hr4.frB hbc de de FS,HF.trans F_d (fun j hj e => by omega)⟩
               case measure => simp only [intOf]; omega
             exact .nil
           exact .nil
         exact .nil
       exact .nil
     refine oC (fun K hK => ?_) ?_
     · go_simp;go_at_call 26;refine (HH2 _ (HF0.trans' HF).drew).mono ?_;rintro e_a w_a ⟨R2,hq2,tv2,rfl,ht2,hf_a⟩;obtain ⟨V2,c2,vr2,vals2,rfl,hv2,hr2⟩ := ht2.low;obtain ⟨A2,c22,hv22⟩ := ad hr2.own;subst hv22;have F_a : Fr (fun _ => False) W7 w_a := hf_a.drew_l;have cy0 := (HBX.fr F_a id).c0;have cy1 := (HBX.fr F_a id).c1;refine oK hK ?_ fun hHeld => ?_
       · try dsimp only
         exact HSY _ (F_a.mono uu)
       clear hK K;refine oR [1] ?_;refine oC (fun K hK => ?_) ?_
       · go_simp;refine oK hK ?_ fun hHeld => ?_
         · try dsimp only
           exact HSY _ (F_a.mono uu)
         clear hK K;refine oR [6] ?_;refine oC (fun K hK => ?_) ?_
         · go_simp;go_at_call 132;refine (HUU _ V1 c1 _ R1 V2 c2 _ R2 ((HF0.trans' HF).trans' F_a) HQ1.out hq2 ⟨V1,c1,_,vals1,rfl,aa HV1.out F_a ii,HR1.frF F_a⟩ ⟨V2,c2,_,vals2,rfl,hv2,hr2⟩).mono ?_;rintro e_b w_b ⟨R3,hq3,tv3,rfl,ht3,hf_b⟩;obtain ⟨V3,c3,vr3,vals3,rfl,hv3,hr3⟩ := ht3.low;obtain ⟨A3,c33,hv33⟩ := ad hr3.own;subst hv33;have G_b : Fr (fun _ => False) W7 w_b := F_a.trans' hf_b;refine oK hK ?_ fun hHeld => ?_
           · try dsimp only
             exact HSY _ (G_b.mono uu)
           clear hK K;refine oR [7] ?_;refine oC (fun K hK => ?_) ?_
           · go_simp;go_at_call 124;refine (HFE _ V3 mU c3 R3.length A3 c33 (HQ _ hq3)).mono ?_;rintro e_c w_c ⟨rfl,hf_c⟩;have G_c : Fr (fun _ => False) W7 w_c := G_b.trans' hf_c;have hbc := HBX.fr G_c id;have hb2 := hbc.set_ 0 (.slice V3 mU c3);have cc0 := hbc.cell 0;have fz0 := hbc.frozen 0;have cc1 := hb2.cell 1;have fz1 := hb2.frozen 1;have hv4 := aa hv3 hf_c ii;have hr4 := hr3.frF hf_c;refine oK hK ?_ fun hHeld => ?_
             · try dsimp only
               exact HSY _ (G_c.mono uu)
             clear hK K;refine oR [8] ?_;refine oC (fun K hK => ?_) ?_
             · go_simp;have FS : Fr (fun j => j = X) w_c ((w_c.setCell ⟨X,0,none⟩ (.slice V3 mU c3)).setCell ⟨X,1,none⟩ (.slice A3 R3.length c33)) := ((Fr.refl (fun j => j = X) w_c).setCell ⟨X,0,none⟩ (fun _ => rfl) _).setCell ⟨X,1,none⟩ (fun _ => rfl) _;have F_d := (G_c.mono (T := fun j => j = X) uu).trans FS ii;refine oK hK ?_ fun hHeld => ?_
               · try dsimp only
                 exact HSY _ F_d
               clear hK K;refine oD (NoPanic.normal ?_);go_wp2_with fail;go_roundw
               case rel => exact .inr ⟨rfl,V3,c3,A3,c33,vals3,R3,hq3,hb2.set_ 1 _,aa hv4 FS (fun k hk e => ac hv4 hbc de (by rw [hk,e])),hr4.frB hbc de de FS,HF.trans F_d (fun j hj e => by omega)⟩
               case measure => simp only [intOf]; omega
             exact .nil
           exact .nil
         exact .nil
       exact .nil
     exact .nil
   · have hlt : ¬ (1 : Int) < (1 : Int) := jj;have hc := HSX.out wr hf;have cc0 : wr.cell? ⟨w.heap.size,0,none⟩ = some (.pointer (some ⟨eb,0,none⟩)) := hc.1;have ca0 : wr.cell? ⟨w.heap.size + 1,0,none⟩ = some (.slice VA mA ca) := hc.2.1;have ca1 : wr.cell? ⟨w.heap.size + 1,1,none⟩ = some (.slice AA na caa) := hc.2.2.1;have cx0 := hbx.c0;have cx1 := hbx.c1;have HCJ := Hd (HJJ.out wr V1 c1 (.slice A1 R1.length c11') R1 (HF0.trans' hf) hq1 ⟨V1,c1,_,vals1,rfl,hv1,hr1⟩);have HF := Hd hf;clear hc hq1 hbx hv1 hr1 hf;go_wp2_with fail;refine HCJ.mono ?_;rintro e w5 ⟨R3,hq3,tv3,rfl,⟨V3,c3,vr3,vals3,rfl,hv3,hr3⟩,hf5⟩;obtain ⟨A3,c33,hv33⟩ := ad hr3.own;subst hv33;have G5 : Fr (fun _ => False) W0 w5 := HF.trans' hf5;have hbs := HB3.fr G5 id;have HEND := Hd (di hbs (HF0.trans' HF).size hv3 hr3 (HF0.trans' G5) jj);have c0' := hbs.cell 0;have fz0 := hbs.frozen 0;have cc1 := HEND.1;have fz1 := HEND.2.1;have HQ3 := Hd hq3;clear hbs hv3 hr3 hf5 G5 hq3;go_wp2_with fail;exact bodyPost_ret (v := .agg #[.slice V3 m3 c3,.slice A3 R3.length c33]) (results_cell_row rfl _ _ (w.heap.size + 1 + 1 + 1) 47 _ (0,0) _ rfl HEND.2.2.2.1 underlying47 rfl kr) rfl ⟨R3,HQ3,HEND.2.2.2.2⟩
theorem rA {fn : Func} {p c : Tmp} (h : fn.results = #[.cell p ty,.tmp c]) (tmps : Array Value) (w : World) :
    (results fn tmps).run P w = ((asAddr (tmps.getD p undef)).run P w).andThen fun q w₁ => ((loadVar ty q).run P w₁).andThen fun v w₂ => .ok (.tuple #[v,tmps.getD c undef]) w₂ := by
 simp only [results,h];simp [Sem.run_bind,Result.andThen]
theorem gE {P : Program} {fn : Func} {p c : Tmp} {ty : TypeId} (h : fn.results = #[.cell p ty,.tmp c]) (tmps : Array Value) (w : World) (g : Nat) (t : TypeId) (cs : Array Value) (fr : Nat × Nat) (ds : TypeDesc)
    (hp : tmps.getD p undef = .pointer (some ⟨g,0,none⟩)) (hg : w.heap[g]? = some (.cells cs t fr))
    (hu : P.underlying ty = some ds) (hd : (match ds with | .struct _ | .array _ _ => true | _ => false) = true) (hi : (P.info? ty).map (·.size) = some cs.size) (vc : Value) (hc : tmps.getD c undef = vc) :
    (results fn tmps).run P w = .ok (.tuple #[.agg cs,vc]) w := by
 rw [rA h,hp,hc];simp [asAddr,run_loadVar_row w g t ty cs fr ds hg hu hd hi]
theorem FO (f : Value) (w : World) : Calls prog 133 #[.slice none 0 0,f] w fun e w' => e = .returned (.int .i64 (-1)) ∧ w = w' := by
 go_enter func133,ntmps133;go_wp2_with fail
 go_loopw [8] (fun iv wr => iv = .int .i64 0 ∧ w = wr) (fun _ _ => 0)
 case atStart => exact ⟨rfl,rfl⟩
 case round =>
  obtain ⟨rfl,rfl⟩ := hrel;go_wp2_with fail;go_ret;exact ⟨rfl,rfl⟩
theorem FP (f : Value) (w : World) : Calls prog 74 #[.slice none 0 0,f] w fun e w' => e = .returned (.bool false) ∧ w = w' := by
 have HI := Hd (fun w => FO f w);go_enter func74,ntmps74;go_wp2_with fail;refine (HI _).mono ?_;rintro e w1 ⟨rfl,rfl⟩;go_wp2_with fail;go_ret;exact ⟨rfl,rfl⟩
theorem Fp (gb vb : Nat) (V A : Option Addr) (m vc n c k rc : Nat) (R : Option Addr) (p : Option Addr) (w : World) (hg : Blk w gb 30 #[.slice none 0 0]) (hv : Blk w vb 93 #[.pointer p]) :
    Calls prog 73 #[.agg #[.slice V m vc,.slice A n c],.slice R k rc,.pointer (some ⟨gb,0,none⟩),.pointer (some ⟨vb,0,none⟩)] w (IsB true w) := by
 have HH := Hd (fun f w => FP f w);have g0 := hg.cell 0;have v0 := hv.cell 0;simp only [List.getElem?_toArray,List.getElem?_cons_zero] at g0 v0;have hg1 := hg.lt;clear hg hv;go_enter func73,ntmps73;go_wp2_with fail;refine (HH _ _).mono ?_;rintro e w1 ⟨rfl,rfl⟩;go_wp2_with fail;go_ret;exact ⟨rfl,((Fr.refl _ _).alloc _).alloc _⟩
theorem Eb (p : Option Addr) (fv : Value) (w : World) :
    Calls prog 26 #[.pointer p,.agg #[.slice none 0 0],fv] w (dO w 0 [] [[]]) := by
 have HU := Hd (fun w => qf w);have HF := Hd (fun gb vb V A m vc n c k rc R p w hg hv => Fp gb vb V A m vc n c k rc R p w hg hv);go_enter func26,ntmps26;go_wp2_with fail;refine (HU _).mono ?_;rintro e w1 ⟨vr,vals,rfl,hr1,hf1⟩;obtain ⟨A1,c1,hvr⟩ := ad hr1.own;subst hvr;rw [show ([[]] : List (List Int)).length = 1 from rfl];have hz1 := al1 w (.cells #[.pointer p] 93);have hz2 := al2 w (.cells #[.pointer p] 93) (.cells #[.slice none 0 0] 30);have hz3 := CH w (.cells #[.pointer p] 93) (.cells #[.slice none 0 0] 30) (.cells #[.slice none 0 0,.slice none 0 0] 47);have hsz1 := hf1.size;rw [hz3] at hsz1 hr1;have HR1 := Hd (hr1.frF ((Fr.refl (fun _ => False) w1).alloc (.cells #[.slice none 0 0,.slice A1 1 c1] 47)));have B0 := Hd (show Blk (w1.alloc (.cells #[.slice none 0 0,.slice A1 1 c1] 47)) w.heap.size 93 #[.pointer p] from ((((Blk.new w 93 #[.pointer p]).alloc (.cells #[.slice none 0 0] 30)).alloc (.cells #[.slice none 0 0,.slice none 0 0] 47)).fr hf1 id).alloc _);have hb1 := ((Blk.new (w.alloc (.cells #[.pointer p] 93)) 30 #[.slice none 0 0]).alloc (.cells #[.slice none 0 0,.slice none 0 0] 47)).fr hf1 id;rw [hz1] at hb1;have B1 := Hd (hb1.alloc (.cells #[.slice none 0 0,.slice A1 1 c1] 47));have hb2 := (Blk.new ((w.alloc (.cells #[.pointer p] 93)).alloc (.cells #[.slice none 0 0] 30)) 47 #[.slice none 0 0,.slice none 0 0]).fr hf1 id;rw [hz2] at hb2;have B2 := Hd (hb2.alloc (.cells #[.slice none 0 0,.slice A1 1 c1] 47));have HF1 := Hd ((((((Fr.refl (fun _ => False) w).alloc (.cells #[.pointer p] 93)).alloc (.cells #[.slice none 0 0] 30)).alloc (.cells #[.slice none 0 0,.slice none 0 0] 47)).trans' hf1).alloc (.cells #[.slice none 0 0,.slice A1 1 c1] 47));have hc1 := hb1.c0;have hlt1 : w.heap.size + 1 < w1.heap.size := hb1.lt;clear hr1 hb1 hb2 hf1;go_wp2_with fail;obtain ⟨w2,hw2⟩ : ∃ w2,w2 = w1.alloc (.cells #[.slice none 0 0,.slice A1 1 c1] 47) := ⟨_,rfl⟩
 go_loopw [14] (fun iv wr => iv = .int .i64 0 ∧ wr = w1.alloc (.cells #[.slice none 0 0,.slice A1 1 c1] 47)) (fun _ _ => 0)
 case atStart => exact ⟨rfl,rfl⟩
 case round =>
  obtain ⟨rfl,rfl⟩ := hrel;have HFI := Hd (lk 73 #[.pointer (some ⟨w.heap.size + 1,0,none⟩),.pointer (some ⟨w.heap.size,0,none⟩)] 0 0 0 _ none (.slice A1 1 c1) vals [[]] [] (w1.alloc (.cells #[.slice none 0 0,.slice A1 1 c1] 47)) jj (fun _ => ⟨rfl,rfl⟩) de (fun i hi => by
   have : i = 0 := by simp at hi; omega
   subst this; rfl) (World.ownsRow_nil _ _ _ _) HR1 (fun _ _ => rfl) (fun wy i hi hy => by
   have hi0 : i = 0 := by simp at hi; omega
   subst hi0;obtain ⟨R,rc,hv⟩ := ad (HR1.each 0 de);rw [hv];exact HF _ _ _ _ _ _ _ _ _ _ _ _ wy (B1.fr hy (fun h => absurd h (by simp; omega))) (B0.fr hy (fun h => absurd h (by simp; omega)))))
  go_wp2_with fail;refine HFI.mono ?_;rintro e w3 ⟨V3,vc3,vr3,vals3,rfl,hV3,hs3,hr3,hf3⟩;obtain ⟨rfl,rfl⟩ := hV3 rfl;clear hV3;obtain ⟨A3,c3,hv3⟩ := ad hr3.own;subst hv3;rw [show ([[]] : List (List Int)).length = 1 from rfl];have hs4 := ai hs3 (show w.heap.size ≤ _ by simp; omega);have hr4 := hr3.base (show w.heap.size ≤ _ by simp; omega);have C3 := B2.fr hf3 id;have f0 := C3.frozen 0;have cc0 := C3.c0;have hb2 := C3.set_ 0 (.slice none 0 0);have cc1 := hb2.c1;have f12 : (w3.setCell ⟨w.heap.size + 1 + 1,0,none⟩ (.slice none 0 0)).frozen? ⟨w.heap.size + 1 + 1,1,none⟩ = false := hb2.frozen 1;have hb3 : Blk ((w3.setCell ⟨w.heap.size + 1 + 1,0,none⟩ (.slice none 0 0)).setCell ⟨w.heap.size + 1 + 1,1,none⟩ (.slice A3 1 c3)) (w.heap.size + 1 + 1) 47 #[.slice none 0 0,.slice A3 1 c3] := hb2.set_ 1 (.slice A3 1 c3);have FS : Fr (fun j => j = w.heap.size + 1 + 1) w3 ((w3.setCell ⟨w.heap.size + 1 + 1,0,none⟩ (.slice none 0 0)).setCell ⟨w.heap.size + 1 + 1,1,none⟩ (.slice A3 1 c3)) := ((Fr.refl (fun j => j = w.heap.size + 1 + 1) w3).setCell ⟨w.heap.size + 1 + 1,0,none⟩ (fun _ => rfl) _).setCell ⟨w.heap.size + 1 + 1,1,none⟩ (fun _ => rfl) _;have HB3 := Hd hb3;have HRA3 := Hd (hr4.frB C3 de de FS);have HVR3 := Hd (aa hs4 FS (fun j hj e => ac hs4 C3 de (by rw [hj,e])));have HF3 := Hd ((((HF1.trans' hf3).mono (S := fun _ => False) (T := fun j => w.heap.size ≤ j) uu).trans FS (fun j _ h => by omega)).shut (Nat.le_refl _));clear hb2 hb3 FS hs4 hr4 hs3 hr3 hf3 C3;go_wp2_with fail;exact bodyPost_ret (v := .agg #[.slice none 0 0,.slice A3 1 c3]) (results_cell_row rfl _ _ (w.heap.size + 1 + 1) 47 _ (0,0) _ rfl HB3.out underlying47 rfl kr) rfl ⟨none,0,.slice A3 1 c3,vals3,rfl,fun _ => ⟨rfl,rfl⟩,HVR3,HRA3,HF3⟩
def Ec (w : World) (e : Ending) (w' : World) : Prop := ∃ vr vals,e = .returned (.tuple #[.agg #[.slice none 0 0,vr],.int .i64 0]) ∧ ak w' w.heap.size vr vals [[]] ∧ Fr (fun _ => False) w w'
theorem Fq (d s : Option Addr) (w : World) : Calls prog 8 #[.agg #[.slice none 0 0],.agg #[.pointer d,.pointer s,.map none]] w (Ec w) := by
 have HG := Hd (fun p fv w => Eb p fv w);go_enter func8,ntmps8;go_wp2_with fail;have hz2 := al2 w (.cells #[.slice none 0 0] 30) (.cells #[.pointer d,.pointer s,.map none] 41);have hz3 := al3 w (.cells #[.slice none 0 0] 30) (.cells #[.pointer d,.pointer s,.map none] 41) (.cells #[.slice none 0 0,.slice none 0 0] 47);have B2 := Hd ((Blk.new ((w.alloc (.cells #[.slice none 0 0] 30)).alloc (.cells #[.pointer d,.pointer s,.map none] 41)) 47 #[.slice none 0 0,.slice none 0 0]).alloc (.cells #[.pointer d,.pointer s,.map none,.int .i64 0] 95));have B3 := Hd (Blk.new (((w.alloc (.cells #[.slice none 0 0] 30)).alloc (.cells #[.pointer d,.pointer s,.map none] 41)).alloc (.cells #[.slice none 0 0,.slice none 0 0] 47)) 95 #[.pointer d,.pointer s,.map none,.int .i64 0]);have F0 := Hd ((((((Fr.refl (fun _ => False) w).alloc (.cells #[.slice none 0 0] 30)).alloc (.cells #[.pointer d,.pointer s,.map none] 41)).alloc (.cells #[.slice none 0 0,.slice none 0 0] 47)).alloc (.cells #[.pointer d,.pointer s,.map none,.int .i64 0] 95)));rw [hz2] at B2;rw [hz3] at B3;clear hz2 hz3;refine (HG _ _ _).mono ?_;rintro e w3 ⟨V3,vc3,vr3,vals3,rfl,hV3,hs3,hr3,hf3⟩;obtain ⟨rfl,rfl⟩ := hV3 rfl;clear hV3;obtain ⟨A3,c3,hv3⟩ := ad hr3.own;subst hv3;rw [show ([[]] : List (List Int)).length = 1 from rfl];have hr4 := hr3.base (show w.heap.size ≤ _ by simp; omega);have C3 := B2.fr hf3 id;have D3 := B3.fr hf3 id;have hlk := D3.lt;have k3 := D3.c3;have hlcb := C3.lt;have f0 := C3.frozen 0;have cc0 := C3.c0;have hb2 := C3.set_ 0 (.slice none 0 0);have cc1 := hb2.c1;have f12 : (w3.setCell ⟨w.heap.size + 1 + 1,0,none⟩ (.slice none 0 0)).frozen? ⟨w.heap.size + 1 + 1,1,none⟩ = false := hb2.frozen 1;have hb3 : Blk ((w3.setCell ⟨w.heap.size + 1 + 1,0,none⟩ (.slice none 0 0)).setCell ⟨w.heap.size + 1 + 1,1,none⟩ (.slice A3 1 c3)) (w.heap.size + 1 + 1) 47 #[.slice none 0 0,.slice A3 1 c3] := hb2.set_ 1 (.slice A3 1 c3);have FS : Fr (fun j => j = w.heap.size + 1 + 1) w3 ((w3.setCell ⟨w.heap.size + 1 + 1,0,none⟩ (.slice none 0 0)).setCell ⟨w.heap.size + 1 + 1,1,none⟩ (.slice A3 1 c3)) := ((Fr.refl (fun j => j = w.heap.size + 1 + 1) w3).setCell ⟨w.heap.size + 1 + 1,0,none⟩ (fun _ => rfl) _).setCell ⟨w.heap.size + 1 + 1,1,none⟩ (fun _ => rfl) _;have HB3 := Hd (hb3.alloc (.cells #[.slice none 0 0,.slice A3 1 c3] 47));have HRA3 := Hd ((hr4.frB C3 de de FS).frF ((Fr.refl (fun _ => False) _).alloc (.cells #[.slice none 0 0,.slice A3 1 c3] 47)));have HF3 := Hd ((((F0.trans' hf3).mono (S := fun _ => False) (T := fun j => w.heap.size ≤ j) uu).trans FS (fun j _ h => by omega)).alloc (.cells #[.slice none 0 0,.slice A3 1 c3] 47) |>.shut (Nat.le_refl _));clear hb2 hb3 FS hr4 hs3 hr3 hf3 C3 D3;go_wp2_with fail;exact bodyPost_ret (v := .tuple #[.agg #[.slice none 0 0,.slice A3 1 c3],.int .i64 0]) (gE rfl _ _ (w.heap.size + 1 + 1) 47 _ (0,0) _ rfl HB3.out underlying47 rfl kr _ rfl) rfl ⟨.slice A3 1 c3,vals3,rfl,HRA3,HF3⟩
def yQ (Q : List (List Int) → Prop) (m : Nat) (ss : List ByteArray) (w : World) (e : Ending) (w' : World) : Prop := ∃ R,Q R ∧ ∃ tv,e = .returned (.tuple #[tv,.int .i64 0]) ∧ aL w' w.heap.size m tv ss R ∧ Fr (fun _ => False) w w'
theorem rB (db sb : Nat) (ma : Option Nat) (G : Option Addr) (nn cc m : Nat) (ss : List ByteArray) (Q : List (List Int) → Prop) (w : World)
    (HG : ∀ eb W,Fr (fun _ => False) w W → Blk W eb 95 #[.pointer (some ⟨db,0,none⟩),.pointer (some ⟨sb,0,none⟩),.map ma,.int .i64 0] → Calls prog 26 #[.pointer (some ⟨eb,0,none⟩),.agg #[.slice G nn cc],fromV db sb ma] W (cS Q m ss W)) :
    Calls prog 8 #[.agg #[.slice G nn cc],.agg #[.pointer (some ⟨db,0,none⟩),.pointer (some ⟨sb,0,none⟩),.map ma]] w (yQ Q m ss w) := by
 have HGG := Hd HG;unfold cS aQ at HGG;clear HG;go_enter func8,ntmps8;go_wp2_with fail;have hz2 := al2 w (.cells #[.slice G nn cc] 30) (.cells #[.pointer (some ⟨db,0,none⟩),.pointer (some ⟨sb,0,none⟩),.map ma] 41);have hz3 := al3 w (.cells #[.slice G nn cc] 30) (.cells #[.pointer (some ⟨db,0,none⟩),.pointer (some ⟨sb,0,none⟩),.map ma] 41) (.cells #[.slice none 0 0,.slice none 0 0] 47);have B2 := Hd ((Blk.new ((w.alloc (.cells #[.slice G nn cc] 30)).alloc (.cells #[.pointer (some ⟨db,0,none⟩),.pointer (some ⟨sb,0,none⟩),.map ma] 41)) 47 #[.slice none 0 0,.slice none 0 0]).alloc (.cells #[.pointer (some ⟨db,0,none⟩),.pointer (some ⟨sb,0,none⟩),.map ma,.int .i64 0] 95));have B3 := Hd (Blk.new (((w.alloc (.cells #[.slice G nn cc] 30)).alloc (.cells #[.pointer (some ⟨db,0,none⟩),.pointer (some ⟨sb,0,none⟩),.map ma] 41)).alloc (.cells #[.slice none 0 0,.slice none 0 0] 47)) 95 #[.pointer (some ⟨db,0,none⟩),.pointer (some ⟨sb,0,none⟩),.map ma,.int .i64 0]);have F0 := Hd ((((((Fr.refl (fun _ => False) w).alloc (.cells #[.slice G nn cc] 30)).alloc (.cells #[.pointer (some ⟨db,0,none⟩),.pointer (some ⟨sb,0,none⟩),.map ma] 41)).alloc (.cells #[.slice none 0 0,.slice none 0 0] 47)).alloc (.cells #[.pointer (some ⟨db,0,none⟩),.pointer (some ⟨sb,0,none⟩),.map ma,.int .i64 0] 95)));rw [hz2] at B2;rw [hz3] at B3;clear hz2 hz3;refine (HGG (w.heap.size + 1 + 1 + 1) _ F0.out B3).mono ?_;rintro e w3 ⟨R,hq,tv,rfl,⟨V3,vc3,vr3,vals3,rfl,hv3,hr3⟩,hf3⟩;obtain ⟨A3,c3,hvv⟩ := ad hr3.own;subst hvv;have C3 := B2.fr hf3 id;have D3 := B3.fr hf3 id;have hlk := D3.lt;have k3 := D3.c3;have hlcb := C3.lt;have f0 := C3.frozen 0;have cc0 := C3.c0;have HEND := Hd (di C3 F0.size hv3 hr3 (F0.trans' hf3) jj);have cc1 := HEND.1;have f12 := HEND.2.1;have HQ := Hd hq;clear hv3 hr3 hf3 C3 D3 hq;go_wp2_with fail;have hE := HEND.2.2.2;have hA : Fr (fun _ => False) ((w3.setCell ⟨w.heap.size + 1 + 1,0,none⟩ (.slice V3 m vc3)).setCell ⟨w.heap.size + 1 + 1,1,none⟩ (.slice A3 R.length c3)) (((w3.setCell ⟨w.heap.size + 1 + 1,0,none⟩ (.slice V3 m vc3)).setCell ⟨w.heap.size + 1 + 1,1,none⟩ (.slice A3 R.length c3)).alloc (.cells #[.slice V3 m vc3,.slice A3 R.length c3] 47)) := (Fr.refl _ _).alloc _;obtain ⟨tv,htv,hT,hF⟩ := hE.2;obtain rfl : tv = .agg #[.slice V3 m vc3,.slice A3 R.length c3] := by injection htv with h; exact h.symm
 exact bodyPost_ret (v := .tuple #[.agg #[.slice V3 m vc3,.slice A3 R.length c3],.int .i64 0]) (gE rfl _ _ (w.heap.size + 1 + 1) 47 _ (0,0) _ rfl (hE.1.alloc _) underlying47 rfl kr _ rfl) rfl ⟨R,HQ,_,rfl,hT.frF hA,hF.trans' hA⟩
/-! The tables of the evaluation, in two spellings. -/
def tu (ss : List ByteArray) (v : ByteArray) : Bool := ss.any fun u => decide (u = v)
def BS : List ByteArray → ByteArray → Nat
 | [],_ => 0
 | u :: us,v => if u = v then 0 else BS us v + 1
def ij (ss : List ByteArray) (v : ByteArray) : Nat × Bool := (if tu ss v = true then BS ss v else (ss.takeWhile fun u => Op.bytesLess u.toList v.toList).length,tu ss v)
theorem rC (v : ByteArray) : ∀ (ss : List ByteArray) (xs : List Int),xs.length = ss.length → cQ ss xs v = if tu ss v = true then xs.getD (BS ss v) 0 else -1
 | [],xs,_ => by simp [cQ,tu]
 | u :: us,[],h => by simp at h
 | u :: us,n :: xs,h => by
  have ih := rC v us xs (by simpa using h);unfold cQ tu BS;by_cases e : u = v
  · subst e;simp
  · rw [if_neg e,ih,if_neg e,List.any_cons,decide_eq_false e,Bool.false_or];unfold tu;split <;> rfl
theorem mx {xs : List Int} (h : xs.length = ss.length) (v : ByteArray) : jF (ij ss) xs v = cQ ss xs v := by
 rw [rC v ss xs h];unfold jF mO ij;by_cases e : tu ss v = true <;> simp [e]
theorem uH {y : List Int} (h : y.length = sb.length) : ∀ (sa : List ByteArray) (x : List Int),fU (jF (ij sb) y) sa x = fu sb y sa x
 | [],x => by cases x <;> rfl
 | v :: vs,[] => rfl
 | v :: vs,n :: x => by
  unfold fU fu;rw [mx h,uH h vs x]
theorem tw (ha : ∀ x ∈ ra,x.length = sa.length) (hb : ∀ y ∈ rb,y.length = sb.length) : ra.flatMap (bA (ij sa) (ij sb) sa sc rb) = aN sa ra sb rb sc := by
 unfold aN;rw [List.flatMap_def,List.flatMap_def];congr 1;apply List.map_congr_left;intro x hx;unfold bA qN;have h1 : (rb.filter fun y => fU (jF (ij sb) y) sa x) = rb.filter fun y => fu sb y sa x := List.filter_congr fun y hy => uH (hb y hy) sa x;rw [h1];apply List.map_congr_left;intro y hy;have hyb := hb y (List.mem_filter.1 hy).1;unfold fH fJ;apply List.map_congr_left;intro v _;rw [mx (ha x hx),mx hyb]
theorem cN : (aN sa ra sb rb sc).length ≤ ra.length * rb.length := by
 unfold aN
 induction ra with
 | nil => simp
 | cons x ra ih =>
  rw [List.flatMap_cons,List.length_append,List.length_map,List.length_cons,Nat.succ_mul];have := List.length_filter_le (fun y => fu sb y sa x) rb;omega
theorem fX (h : ∀ x ∈ R,x.length = m ∧ ∀ n ∈ x,-1 ≤ n) : jG m R := fun i hi => by
 have hm : R.getD i [] ∈ R := eA hi;obtain ⟨h1,h2⟩ := h _ hm;refine ⟨h1,fun k hk => ?_⟩;rw [List.getD_eq_getElem?_getD,List.getElem?_eq_getElem jj];exact h2 _ (List.getElem_mem _)
def my (ss : List ByteArray) (v : ByteArray) (p : Nat) (fnd : Bool) : Bool :=
 decide (p ≤ ss.length) && ((List.range ss.length).all fun k => Op.bytesLess (ss.getD k ByteArray.empty).toList v.toList == decide (k < p)) && (if p < ss.length then ((ss.getD p ByteArray.empty).toList == v.toList) == fnd else !fnd)
theorem isVar_of {v : ByteArray} {p : Nat} {fnd : Bool} (h : my ss v p fnd = true) : gR ss v p fnd := by
 unfold my at h;simp only [Bool.and_eq_true,decide_eq_true_eq,List.all_eq_true,List.mem_range,beq_iff_eq] at h;obtain ⟨⟨h1,h2⟩,h3⟩ := h;refine ⟨h1,h2,fun hp => ?_,fun hp => ?_⟩
 · rw [if_pos hp] at h3;simpa using h3
 · rw [if_neg jj] at h3;simpa using h3
def gF (ss vs : List ByteArray) : Bool := vs.all fun v => my ss v (ij ss v).1 (ij ss v).2 && (!(ij ss v).2 || decide ((ij ss v).1 < ss.length))
theorem iy {vs : List ByteArray} (h : gF ss vs = true) : dY ss (ij ss) vs := by
 unfold gF at h;simp only [List.all_eq_true,Bool.and_eq_true,Bool.or_eq_true,Bool.not_eq_true',decide_eq_true_eq] at h;intro v hv;obtain ⟨h1,h2⟩ := h v hv;exact ⟨isVar_of h1,fun e => by rcases h2 with h2 | h2; rw [e] at h2; cases h2; exact h2⟩
structure JV (sa sb sc : List ByteArray) : Prop where
 vars : fk sa sb = sc
 a : gF sa sc = true
 b : gF sb sc = true
 b2 : gF sb sa = true
 pos : 0 < sa.length + sb.length
 le : sa.length + sb.length ≤ 9
 lec : sc.length ≤ 9
abbrev vS : ByteArray := ⟨#[115]⟩
abbrev vT : ByteArray := ⟨#[116]⟩
abbrev vX : ByteArray := ⟨#[120]⟩
abbrev vY : ByteArray := ⟨#[121]⟩
theorem bG {zs : List ByteArray} (hp : zs.Perm ss) (hs : (zs.map fun s => s.data.toList).Pairwise (· ≤ ·)) : df ss = zs := by
 have h1 : ((ss.map fun s => s.data.toList).mergeSort fun x y => decide (x ≤ y)) = zs.map fun s => s.data.toList := by
  refine List.Perm.eq_of_pairwise (le := fun x y => x ≤ y) ?_ ?_ hs ((List.mergeSort_perm _ _).trans (hp.symm.map _))
  · intro a b _ _ h1 h2;exact List.le_antisymm h1 h2
  · have := List.pairwise_mergeSort (le := fun x y : List UInt8 => decide (x ≤ y)) (fun a b c h1 h2 => by simp at *; exact List.le_trans h1 h2) (fun a b => by simp; exact List.le_total a b) (ss.map fun s => s.data.toList);simpa using this
 unfold df;rw [h1,List.map_map]
 conv => rhs; rw [← List.map_id zs]
 apply List.map_congr_left;intro s _;rfl
theorem jv1 : JV [] [vT,vX] [vT,vX] := ⟨by unfold fk; rw [bG (zs := [vT,vX]) de de]; rfl,by decide +kernel,by decide +kernel,by decide +kernel,by decide,by decide,by decide⟩
theorem jv2 : JV [] [vX,vY] [vX,vY] := ⟨by unfold fk; rw [bG (zs := [vX,vY]) de de]; rfl,by decide +kernel,by decide +kernel,by decide +kernel,by decide,by decide,by decide⟩
theorem jv3 : JV [] [vT,vY] [vT,vY] := ⟨by unfold fk; rw [bG (zs := [vT,vY]) de de]; rfl,by decide +kernel,by decide +kernel,by decide +kernel,by decide,by decide,by decide⟩
theorem jv4 : JV [vT,vX] [vT,vY] [vT,vX,vY] := ⟨by unfold fk; rw [bG (zs := [vT,vT,vX,vY]) de de]; rfl,by decide +kernel,by decide +kernel,by decide +kernel,by decide,by decide,by decide⟩
theorem jv5 : JV [vT,vX] [vS,vT] [vS,vT,vX] := ⟨by unfold fk; rw [bG (zs := [vS,vT,vT,vX]) de de]; rfl,by decide +kernel,by decide +kernel,by decide +kernel,by decide,by decide,by decide⟩
theorem jv6 : JV [vS,vT,vX] [vS,vY] [vS,vT,vX,vY] := ⟨by unfold fk; rw [bG (zs := [vS,vS,vT,vX,vY]) de de]; rfl,by decide +kernel,by decide +kernel,by decide +kernel,by decide,by decide,by decide⟩
theorem Fs (J : JV sa sb sc) {ma mb mC : Nat} (hma : sa.length = ma) (hmb : sb.length = mb) (hmc : sc.length = mC) (eb : Nat) (d s mp : Value) (ca cb Bra Brb : Nat) (VA VB : Option Addr) (vra vrb : Value) (valsa valsb : List Value) (ra rb : List (List Int)) (w : World) (hE : Blk w eb 95 #[d,s,mp,.int .i64 0]) (hra : ∀ x ∈ ra,x.length = ma ∧ ∀ n ∈ x,-1 ≤ n) (hrb : ∀ x ∈ rb,x.length = mb ∧ ∀ n ∈ x,-1 ≤ n) (hna : ra.length ≤ 4096) (hnb : rb.length ≤ 4096) (hnt : ra.length * rb.length ≤ 4096)
    (hA : w.ownsRow 0 9 1 (.slice VA ma ca) ma (sa.map .string)) (hBv : w.ownsRow 0 9 1 (.slice VB mb cb) mb (sb.map .string)) (hRA : ak w Bra vra valsa ra) (hRB : ak w Brb vrb valsb rb) :
    Calls prog 123 #[.pointer (some ⟨eb,0,none⟩),.agg #[.slice VA ma ca,vra],.agg #[.slice VB mb cb,vrb]] w (aQ w mC sc (aN sa ra sb rb sc)) := by
 have e := tw (sc := sc) (fun x hx => ((hra x hx).1).trans hma.symm) (fun y hy => ((hrb y hy).1).trans hmb.symm);have hl := cN (sa := sa) (sb := sb) (sc := sc) (ra := ra) (rb := rb);rw [← e] at hl ⊢;exact AQ (ij sa) (ij sb) eb ma ca mb cb mC 0 0 Bra Brb d s mp VA VB vra vrb valsa valsb sa sb sc ra rb w hE J.vars hmc hma hmb (by have := J.pos; omega) (by have := J.le; omega) (by have := J.lec; omega) (iy J.a) (iy J.b) (iy J.b2) (fX hra) (fX hrb) hna hnb (Nat.le_trans hl hnt) hA hBv hRA hRB
def DT.cells (x : DT) : Array Value := #[.int .i64 x.kind,.string x.text,.string x.type,.string x.lang]
def kindOf (k : Int) : Int := wrap64 ((IntKind.u64.wrap k).tmod 3)
theorem wj (k : Int) : 0 ≤ kindOf k ∧ kindOf k ≤ 2 := by
 have h : 0 ≤ IntKind.u64.wrap k := by
  unfold IntKind.wrap;simp [IntKind.signed,IntKind.bits];omega
 have h2 := Int.tmod_nonneg 3 h;have h3 := Int.tmod_lt_of_pos (IntKind.u64.wrap k) (show (0 : Int) < 3 by decide);unfold kindOf;have e : wrap64 ((IntKind.u64.wrap k).tmod 3) = (IntKind.u64.wrap k).tmod 3 := by
  unfold wrap64;omega
 omega
def fK (x : DT) : DT := if kindOf x.kind = 2 then ⟨2,x.text,x.type,x.lang⟩ else ⟨kindOf x.kind,x.text,⟨#[]⟩,⟨#[]⟩⟩
theorem je (x : DT) (w : World) : Calls prog 69 #[.agg x.cells] w fun e w' => e = .returned (.agg (fK x).cells) ∧ Fr (fun _ => False) w w' := by
 obtain ⟨k,t,ty,l⟩ := x;unfold fK;obtain ⟨kk,hk⟩ : ∃ kk,wrap64 ((IntKind.u64.wrap k).tmod 3) = kk := ⟨_,rfl⟩;have HK := Hd (show kindOf k = kk from hk);rw [show kindOf (DT.kind ⟨k,t,ty,l⟩) = kk from HK.out];unfold DT.cells;by_cases h2 : kk = 2
 · have h2' : (kk != 2) = false := by simp [h2]
   rw [if_pos h2];subst h2;go_enter func69,ntmps69;go_wp2_with fail;have hb := Blk.new (w.alloc (.cells #[.int .i64 2,.string t,.string ty,.string l] 67)) 67 #[.int .i64 2,.string t,.string ty,.string l];have hsz := al1 w (.cells #[.int .i64 2,.string t,.string ty,.string l] 67);rw [hsz] at hb;exact bodyPost_ret (v := .agg #[.int .i64 2,.string t,.string ty,.string l]) (results_cell_row rfl _ _ (w.heap.size + 1) 67 _ (0,0) _ rfl hb underlying67 rfl kr) rfl ⟨rfl,((Fr.refl _ _).alloc _).alloc _⟩
 · have h2' : (kk != 2) = true := by simp [h2]
   rw [if_neg h2];clear h2;go_enter func69,ntmps69;go_wp2_with fail;have hb := Blk.new (w.alloc (.cells #[.int .i64 kk,.string t,.string ⟨#[]⟩,.string ⟨#[]⟩] 67)) 67 #[.int .i64 kk,.string t,.string ⟨#[]⟩,.string ⟨#[]⟩];have hsz := al1 w (.cells #[.int .i64 kk,.string t,.string ⟨#[]⟩,.string ⟨#[]⟩] 67);rw [hsz] at hb;exact bodyPost_ret (v := .agg #[.int .i64 kk,.string t,.string ⟨#[]⟩,.string ⟨#[]⟩]) (results_cell_row rfl _ _ (w.heap.size + 1) 67 _ (0,0) _ rfl hb underlying67 rfl kr) rfl ⟨rfl,((Fr.refl _ _).alloc _).alloc _⟩
theorem kj (x : DT) (w : World) (hk0 : 0 ≤ x.kind) (hk2 : x.kind ≤ 2) : Calls prog 57 #[.agg x.cells] w fun e w' => e = .returned (bY x).val ∧ Fr (fun _ => False) w w' := by
 obtain ⟨k,t,ty,l⟩ := x;simp only at hk0 hk2;unfold bY DT.cells;simp only;by_cases h0 : k = 0
 · subst h0;rw [if_pos rfl];unfold Tm.val;go_enter func57,ntmps57;go_wp2_with fail;go_ret;exact ⟨rfl,(Fr.refl _ _).alloc _⟩
 · by_cases h1 : k = 1
   · subst h1;rw [if_neg h0,if_pos rfl];clear h0;unfold Tm.val;go_enter func57,ntmps57;go_wp2_with fail;go_ret;exact ⟨rfl,(Fr.refl _ _).alloc _⟩
   · have h2 : k = 2 := jj;subst h2;rw [if_neg h0,if_neg h1];clear h0 h1;unfold Tm.val;go_enter func57,ntmps57;go_wp2_with fail;go_ret;exact ⟨rfl,(Fr.refl _ _).alloc _⟩
theorem kF (c : Int) (w : World) : Calls prog 162 #[.int .u8 c] w fun e w' => e = .returned (.bool (bf c)) ∧ w = w' := by
 by_cases h1 : 97 ≤ c
 · have h1' : decide (97 ≤ c) = true := decide_eq_true h1;by_cases h2 : c ≤ 122
   · have h2' : decide (c ≤ 122) = true := decide_eq_true h2;have HL := Hd (show bf c = true from FV);go_enter func162,ntmps162;go_wp2_with fail;go_ret;exact ⟨by rw [HL.out]; rfl,rfl⟩
   · have h2' : decide (c ≤ 122) = false := decide_eq_false h2;have h3 : 65 ≤ c := jj;have h3' : decide (65 ≤ c) = true := decide_eq_true h3;have h4' : decide (c ≤ 90) = false := FX;have HL := Hd (show bf c = false from FX);go_enter func162,ntmps162;go_wp2_with fail;go_ret;exact ⟨by rw [HL.out]; rfl,rfl⟩
 · have h1' : decide (97 ≤ c) = false := decide_eq_false h1;by_cases h3 : 65 ≤ c
   · have h3' : decide (65 ≤ c) = true := decide_eq_true h3;by_cases h4 : c ≤ 90
     · have h4' : decide (c ≤ 90) = true := decide_eq_true h4;have HL := Hd (show bf c = true from FV);go_enter func162,ntmps162;go_wp2_with fail;go_ret;exact ⟨by rw [HL.out]; rfl,rfl⟩
     · have h4' : decide (c ≤ 90) = false := decide_eq_false h4;have HL := Hd (show bf c = false from FX);go_enter func162,ntmps162;go_wp2_with fail;go_ret;exact ⟨by rw [HL.out]; rfl,rfl⟩
   · have h3' : decide (65 ≤ c) = false := decide_eq_false h3;have HL := Hd (show bf c = false from FX);go_enter func162,ntmps162;go_wp2_with fail;go_ret;exact ⟨by rw [HL.out]; rfl,rfl⟩
theorem ou (c : Int) (w : World) : Calls prog 163 #[.int .u8 c] w fun e w' => e = .returned (.bool (cF c)) ∧ w = w' := by
 by_cases h1 : 48 ≤ c
 · have h1' : decide (48 ≤ c) = true := decide_eq_true h1;obtain ⟨q,hq⟩ : ∃ q,decide (c ≤ 57) = q := ⟨_,rfl⟩;have HL := Hd (show cF c = q by rw [← hq]; unfold cF; simp [h1]);clear h1;cases q with
   | true =>
    go_enter func163,ntmps163;go_wp2_with fail;go_ret;exact ⟨by rw [HL.out]; rfl,rfl⟩
   | false =>
    go_enter func163,ntmps163;go_wp2_with fail;go_ret;exact ⟨by rw [HL.out]; rfl,rfl⟩
 · have h1' : decide (48 ≤ c) = false := decide_eq_false h1;have HL := Hd (show cF c = false from FX);go_enter func163,ntmps163;go_wp2_with fail;go_ret;exact ⟨by rw [HL.out]; rfl,rfl⟩
theorem mz (s : ByteArray) (i : Nat) (h : ¬ i < s.size) : bB s i = true := by rw [bB,dif_neg h]
theorem ct {s : ByteArray} (h : i < s.size) (w : World) : (Instr.index 9 (.string s) (.int .i64 (i : Int))).run prog w = .ok (.int .u8 (ae s i)) w := by
 rw [run_index_string w 9 s .i64 i underlying9,dif_pos ⟨by omega,by omega⟩];congr 2;unfold ae;have hl : i < s.data.toList.length := by simpa using h
 rw [List.getD_eq_getElem?_getD,List.getElem?_eq_getElem hl];rfl
theorem fY (s : ByteArray) (i : Nat) : 0 ≤ ae s i ∧ ae s i ≤ 255 := by
 unfold ae;have := (s.data.toList.getD i 0).toNat_lt;omega
theorem tx (s : ByteArray) (w : World) (hs : s.size ≤ 4096) : Calls prog 119 #[.string s] w fun e w' => e = .returned (.bool (iX s)) ∧ w = w' := by
 have HRL := Hd (show iX s = (decide (1 ≤ s.size) && (decide (s.size ≤ 100) && bB s 0)) from rfl);generalize iX s = rl at *;by_cases h1 : s.size < 1
 · have h1' : decide (s.size < 1) = true := decide_eq_true h1;have h1e : decide ((s.size : Int) < 1) = true := FV;have h1f : (s.size : Int) < 1 := jj;have HH := Hd (show decide (1 ≤ s.size) = false from FX);clear h1;go_enter func119,ntmps119;go_wp2_with fail;go_ret;exact ⟨by rw [HRL.out,HH.out]; rfl,rfl⟩
 · have h1e : decide ((s.size : Int) < 1) = false := FX;by_cases h2 : 100 < s.size
   · have h2e : decide ((100 : Int) < (s.size : Int)) = true := FV;have HH := Hd (show decide (s.size ≤ 100) = false from FX);go_enter func119,ntmps119;go_wp2_with fail;go_ret;exact ⟨by rw [HRL.out,HH.out]; simp,rfl⟩
   · have h2e : decide ((100 : Int) < (s.size : Int)) = false := FX;have HH := Hd (show decide (1 ≤ s.size) = true ∧ decide (s.size ≤ 100) = true from ⟨FV,FV⟩);have hs2 : (s.size : Int) ≤ 100 := jj;clear h1 h2;go_enter func119,ntmps119;go_wp2_with fail;clear h1e h2e
     go_loopw [3] (fun iv wr => ∃ i : Nat,iv = .int .i64 (i : Int) ∧ i ≤ s.size ∧ wr = w ∧ bB s i = bB s 0) (fun iv _ => s.size - (intOf iv).toNat)
     case atStart => exact ⟨0,rfl,Nat.zero_le _,rfl,rfl⟩
     case round =>
      obtain ⟨i,rfl,hi,rfl,htx⟩ := hrel;by_cases hlt : i < s.size
      · have hlt' : (i : Int) < (s.size : Int) := jj;have hix := ct hlt;rw [gG s i hlt] at htx;generalize ae s i = c at *;unfold jr at htx;have HLE := Hd (fun w => kF c w);have HDI := Hd (fun w => ou c w);generalize bf c = lb at *;generalize cF c = db at *;have HTX := Hd htx;clear htx;go_wp2_with fail;refine (HLE _).mono ?_;rintro e w1 ⟨rfl,rfl⟩;cases lb with
        | true =>
         go_wp2_with fail;go_roundw
         case rel => exact ⟨i + 1,by go_num,by omega,by simp,by have h := HTX.out; simpa using h⟩
         case measure => simp [intOf]; omega
        | false =>
         go_wp2_with fail;refine (HDI _).mono ?_;rintro e w1 ⟨rfl,rfl⟩;cases db with
         | true =>
          go_wp2_with fail;go_roundw
          case rel => exact ⟨i + 1,by go_num,by omega,by simp,by have h := HTX.out; simpa using h⟩
          case measure => simp [intOf]; omega
         | false =>
          by_cases h0 : i = 0
          · subst h0;go_wp2_with fail;go_ret;exact ⟨by rw [HRL.out,← HTX.out]; simp,rfl⟩
          · have h0' : ((i : Int) == 0) = false := by simp [h0]
            have H0 := Hd h0;clear h0;by_cases h5 : c = 95
            · have h5' : (c != 95) = false := by simp [h5]
              have H5 := Hd h5;clear h5;go_wp2_with fail;go_roundw
              case rel => exact ⟨i + 1,by go_num,by omega,by simp,by have h := HTX.out; simpa [H0.out,H5.out] using h⟩
              case measure => simp [intOf]; omega
            · have h5' : (c != 95) = true := by simp [h5]
              have H5 := Hd h5;clear h5;by_cases h6 : c = 45
              · have h6' : (c != 45) = false := by simp [h6]
                have H6 := Hd h6;clear h6;go_wp2_with fail;go_roundw
                case rel => exact ⟨i + 1,by go_num,by omega,by simp,by have h := HTX.out; simpa [H0.out,H6.out] using h⟩
                case measure => simp [intOf]; omega
              · have h6' : (c != 45) = true := by simp [h6]
                have H6 := Hd h6;clear h6;go_wp2_with fail;go_ret;exact ⟨by rw [HRL.out,← HTX.out]; simp [H5.out,H6.out],rfl⟩
      · have hge : (s.size : Int) ≤ (i : Int) := jj;rw [mz s i hlt] at htx;have HTX := Hd htx;clear htx hlt;go_wp2_with fail;go_ret;exact ⟨by rw [HRL.out,← HTX.out,HH.out.1,HH.out.2]; rfl,rfl⟩
theorem wk (s : ByteArray) (w : World) (hs : s.size ≤ 4096) : Calls prog 122 #[.string s] w fun e w' => e = .returned (.bool (lE s)) ∧ w = w' := by
 have HRL := Hd (show lE s = (decide (1 ≤ s.size) && (decide (s.size ≤ 40) && aO s 0 0 0)) from rfl);generalize lE s = rl at *;by_cases h1 : s.size < 1
 · have h1e : decide ((s.size : Int) < 1) = true := FV;have h1f : (s.size : Int) < 1 := jj;have HH := Hd (show decide (1 ≤ s.size) = false from FX);clear h1;go_enter func122,ntmps122;go_wp2_with fail;go_ret;exact ⟨by rw [HRL.out,HH.out]; rfl,rfl⟩
 · have h1e : decide ((s.size : Int) < 1) = false := FX;by_cases h2 : 40 < s.size
   · have h2e : decide ((40 : Int) < (s.size : Int)) = true := FV;have HH := Hd (show decide (s.size ≤ 40) = false from FX);go_enter func122,ntmps122;go_wp2_with fail;go_ret;exact ⟨by rw [HRL.out,HH.out]; simp,rfl⟩
   · have h2e : decide ((40 : Int) < (s.size : Int)) = false := FX;have HH := Hd (show decide (1 ≤ s.size) = true ∧ decide (s.size ≤ 40) = true from ⟨FV,FV⟩);have hs2 : (s.size : Int) ≤ 40 := jj;clear h1 h2;go_enter func122,ntmps122;go_wp2_with fail;clear h1e h2e
     go_loopw [3,4,5] (fun pv lv iv wr => ∃ i part long : Nat,pv = .int .i64 (part : Int) ∧ lv = .int .i64 (long : Int) ∧ iv = .int .i64 (i : Int) ∧ i ≤ s.size ∧ part ≤ i ∧ long ≤ 8 ∧ wr = w ∧ aO s i part long = aO s 0 0 0) (fun _ _ iv _ => s.size - (intOf iv).toNat)
     case atStart => exact ⟨0,0,0,rfl,rfl,rfl,Nat.zero_le _,Nat.le_refl _,by omega,rfl,rfl⟩
     case round =>
      obtain ⟨i,part,long,rfl,rfl,rfl,hi,hpi,hl8,rfl,htx⟩ := hrel;by_cases hlt : i < s.size
      · have hlt' : (i : Int) < (s.size : Int) := jj;have hix := ct hlt;rw [cG s i part long hlt] at htx;generalize ae s i = c at *;have HLE := Hd (fun w => kF c w);have HDI := Hd (fun w => ou c w);generalize bf c = lb at *;generalize cF c = db at *;by_cases h45 : c = 45
        · have h45' : (c == 45) = true := by simp [h45]
          rw [if_pos h45] at htx;have HTX := Hd htx;clear h45 htx;by_cases hl0 : long = 0
          · subst hl0;go_wp2_with fail;go_ret;exact ⟨by rw [HRL.out,← HTX.out]; simp,rfl⟩
          · have hl0' : ((long : Int) == 0) = false := by simp [hl0]
            have HL0 := Hd hl0;clear hl0;go_wp2_with fail;go_roundw
            case rel => exact ⟨i + 1,part + 1,0,by go_num,rfl,by go_num,by omega,by omega,by omega,by simp,by have h := HTX.out; simpa [HL0.out] using h⟩
            case measure => simp [intOf]; omega
        · have h45' : (c == 45) = false := by simp [h45]
          rw [if_neg h45] at htx;have HTX := Hd htx;clear h45 htx;cases lb with
          | true =>
           by_cases h8 : 8 ≤ long
           · have h8' : (8 : Int) < (long : Int) + 1 := jj;have H8 := Hd (show decide (long < 8) = false from FX);go_wp2_with fail;refine (HLE _).mono ?_;rintro e w1 ⟨rfl,rfl⟩;go_wp2_with fail;go_ret;exact ⟨by rw [HRL.out,← HTX.out,H8.out]; simp,rfl⟩
           · have h8' : (long : Int) + 1 ≤ 8 := jj;have H8 := Hd (show decide (long < 8) = true from FV);go_wp2_with fail;refine (HLE _).mono ?_;rintro e w1 ⟨rfl,rfl⟩;go_wp2_with fail;go_roundw
             case rel => exact ⟨i + 1,part,long + 1,rfl,by go_num,by go_num,by omega,by omega,by omega,by simp,by have h := HTX.out; rw [H8.out] at h; simpa using h⟩
             case measure => simp [intOf]; omega
          | false =>
           by_cases hp0 : part = 0
           · subst hp0;go_wp2_with fail;refine (HLE _).mono ?_;rintro e w1 ⟨rfl,rfl⟩;go_wp2_with fail;go_ret;exact ⟨by rw [HRL.out,← HTX.out]; simp,rfl⟩
           · have hp0' : ((part : Int) == 0) = false := by simp [hp0]
             have HP0 := Hd hp0;clear hp0;cases db with
             | false =>
              go_wp2_with fail;refine (HLE _).mono ?_;rintro e w1 ⟨rfl,rfl⟩;go_wp2_with fail;refine (HDI _).mono ?_;rintro e w1 ⟨rfl,rfl⟩;go_wp2_with fail;go_ret;exact ⟨by rw [HRL.out,← HTX.out]; simp,rfl⟩
             | true =>
              by_cases h8 : 8 ≤ long
              · have h8' : (8 : Int) < (long : Int) + 1 := jj;have H8 := Hd (show decide (long < 8) = false from FX);go_wp2_with fail;refine (HLE _).mono ?_;rintro e w1 ⟨rfl,rfl⟩;go_wp2_with fail;refine (HDI _).mono ?_;rintro e w1 ⟨rfl,rfl⟩;go_wp2_with fail;go_ret;exact ⟨by rw [HRL.out,← HTX.out,H8.out]; simp,rfl⟩
              · have h8' : (long : Int) + 1 ≤ 8 := jj;have H8 := Hd (show decide (long < 8) = true from FV);go_wp2_with fail;refine (HLE _).mono ?_;rintro e w1 ⟨rfl,rfl⟩;go_wp2_with fail;refine (HDI _).mono ?_;rintro e w1 ⟨rfl,rfl⟩;go_wp2_with fail;go_roundw
                case rel => exact ⟨i + 1,part,long + 1,rfl,by go_num,by go_num,by omega,by omega,by omega,by simp,by have h := HTX.out; rw [H8.out] at h; simpa [HP0.out] using h⟩
                case measure => simp [intOf]; omega
      · have hge : (s.size : Int) ≤ (i : Int) := jj;rw [cz s i part long hlt] at htx;have HTX := Hd htx;clear htx hlt;by_cases hl0 : long = 0
        · subst hl0;go_wp2_with fail;go_ret;exact ⟨by rw [HRL.out,← HTX.out,HH.out.1,HH.out.2]; rfl,rfl⟩
        · have hl1 : (0 : Int) < (long : Int) := jj;have hl2 : decide (0 < long) = true := FV;have HL2 := Hd hl2;clear hl0;go_wp2_with fail;go_ret;exact ⟨by rw [HRL.out,← HTX.out,HH.out.1,HH.out.2,HL2.out]; rfl,rfl⟩
theorem iz (x : Int) (w : World) : Calls prog 226 #[.int .i64 x] w fun e w' => e = .returned (.bool (bT x)) ∧ w = w' := by
 rcases (show x ≤ -1 ∨ (0 ≤ x ∧ x ≤ 55295) ∨ (55296 ≤ x ∧ x ≤ 57343) ∨ (57344 ≤ x ∧ x ≤ 1114111) ∨ 1114112 ≤ x by omega) with hI | hI | hI | hI | hI
 · have e0ge : decide (0 ≤ x) = false := FX;have e1114111le : decide (x ≤ 1114111) = true := FV;have e55296lt : decide (x < 55296) = true := FV;have e57343gt : decide (57343 < x) = false := FX;have HL := Hd (show bT x = false from FX);clear hI;go_enter func226,ntmps226;go_wp2_with fail;go_ret;exact ⟨by rw [HL.out]; rfl,rfl⟩
 · have e0ge : decide (0 ≤ x) = true := FV;have e1114111le : decide (x ≤ 1114111) = true := FV;have e55296lt : decide (x < 55296) = true := FV;have e57343gt : decide (57343 < x) = false := FX;have HL := Hd (show bT x = true from FV);clear hI;go_enter func226,ntmps226;go_wp2_with fail;go_ret;exact ⟨by rw [HL.out]; rfl,rfl⟩
 · have e0ge : decide (0 ≤ x) = true := FV;have e1114111le : decide (x ≤ 1114111) = true := FV;have e55296lt : decide (x < 55296) = false := FX;have e57343gt : decide (57343 < x) = false := FX;have HL := Hd (show bT x = false from FX);clear hI;go_enter func226,ntmps226;go_wp2_with fail;go_ret;exact ⟨by rw [HL.out]; rfl,rfl⟩
 · have e0ge : decide (0 ≤ x) = true := FV;have e1114111le : decide (x ≤ 1114111) = true := FV;have e55296lt : decide (x < 55296) = false := FX;have e57343gt : decide (57343 < x) = true := FV;have HL := Hd (show bT x = true from FV);clear hI;go_enter func226,ntmps226;go_wp2_with fail;go_ret;exact ⟨by rw [HL.out]; rfl,rfl⟩
 · have e0ge : decide (0 ≤ x) = true := FV;have e1114111le : decide (x ≤ 1114111) = false := FX;have e55296lt : decide (x < 55296) = false := FX;have e57343gt : decide (57343 < x) = true := FV;have HL := Hd (show bT x = false from FX);clear hI;go_enter func226,ntmps226;go_wp2_with fail;go_ret;exact ⟨by rw [HL.out]; rfl,rfl⟩
theorem jf (x : Int) (w : World) : Calls prog 227 #[.int .i64 x] w fun e w' => ∃ A c,e = .returned (.slice A (ay x) c) ∧ Fr (fun _ => False) w w' := by
 rcases (show x ≤ 127 ∨ (128 ≤ x ∧ x ≤ 2047) ∨ (2048 ≤ x ∧ x ≤ 65535) ∨ 65536 ≤ x by omega) with hI | hI | hI | hI
 · have e128lt : decide (x < 128) = true := FV;have e2048lt : decide (x < 2048) = true := FV;have e65536lt : decide (x < 65536) = true := FV;have HL := Hd (show ay x = 1 by unfold ay; split <;> (try omega) <;> (try split) <;> (try omega) <;> (try split) <;> omega);clear hI;go_enter func227,ntmps227;go_wp2_with fail;go_ret;exact ⟨_,_,by rw [HL.out]; rfl,(Fr.refl _ _).alloc _⟩
 · have e128lt : decide (x < 128) = false := FX;have e2048lt : decide (x < 2048) = true := FV;have e65536lt : decide (x < 65536) = true := FV;have HL := Hd (show ay x = 2 by unfold ay; split <;> (try omega) <;> (try split) <;> (try omega) <;> (try split) <;> omega);clear hI;go_enter func227,ntmps227;go_wp2_with fail;go_ret;exact ⟨_,_,by rw [HL.out]; rfl,(Fr.refl _ _).alloc _⟩
 · have e128lt : decide (x < 128) = false := FX;have e2048lt : decide (x < 2048) = false := FX;have e65536lt : decide (x < 65536) = true := FV;have HL := Hd (show ay x = 3 by unfold ay; split <;> (try omega) <;> (try split) <;> (try omega) <;> (try split) <;> omega);clear hI;go_enter func227,ntmps227;go_wp2_with fail;go_ret;exact ⟨_,_,by rw [HL.out]; rfl,(Fr.refl _ _).alloc _⟩
 · have e128lt : decide (x < 128) = false := FX;have e2048lt : decide (x < 2048) = false := FX;have e65536lt : decide (x < 65536) = false := FX;have HL := Hd (show ay x = 4 by unfold ay; split <;> (try omega) <;> (try split) <;> (try omega) <;> (try split) <;> omega);clear hI;go_enter func227,ntmps227;go_wp2_with fail;go_ret;exact ⟨_,_,by rw [HL.out]; rfl,(Fr.refl _ _).alloc _⟩
theorem tz (x : Int) (w : World) : Calls prog 164 #[.int .i64 x] w fun e w' => e = .returned (.int .i64 (gp x)) ∧ w = w' := by
 rcases (show x ≤ -1 ∨ (0 ≤ x ∧ x ≤ 8) ∨ (9 ≤ x ∧ x ≤ 9) ∨ (10 ≤ x ∧ x ≤ 10) ∨ (11 ≤ x ∧ x ≤ 12) ∨ (13 ≤ x ∧ x ≤ 13) ∨ (14 ≤ x ∧ x ≤ 31) ∨ (32 ≤ x ∧ x ≤ 32) ∨ (33 ≤ x ∧ x ≤ 47) ∨ (48 ≤ x ∧ x ≤ 57) ∨ (58 ≤ x ∧ x ≤ 64) ∨ (65 ≤ x ∧ x ≤ 90) ∨ (91 ≤ x ∧ x ≤ 96) ∨ (97 ≤ x ∧ x ≤ 122) ∨ (123 ≤ x ∧ x ≤ 126) ∨ (127 ≤ x ∧ x ≤ 159) ∨ (160 ≤ x ∧ x ≤ 55295) ∨ (55296 ≤ x ∧ x ≤ 57343) ∨ (57344 ≤ x ∧ x ≤ 1114111) ∨ 1114112 ≤ x by omega) with hI | hI | hI | hI | hI | hI | hI | hI | hI | hI | hI | hI | hI | hI | hI | hI | hI | hI | hI | hI
 all_goals
  first | have e32eq : (x == 32) = false := by simp; omega | have e32eq : (x == 32) = true := by simp; omega
  first | have e9eq : (x == 9) = false := by simp; omega | have e9eq : (x == 9) = true := by simp; omega
  first | have e10eq : (x == 10) = false := by simp; omega | have e10eq : (x == 10) = true := by simp; omega
  first | have e13eq : (x == 13) = false := by simp; omega | have e13eq : (x == 13) = true := by simp; omega
  first | have e97ge := decide_eq_false (show ¬ 97 ≤ x by omega) | have e97ge := decide_eq_true (show 97 ≤ x by omega)
  first | have e122le := decide_eq_false (show ¬ x ≤ 122 by omega) | have e122le := decide_eq_true (show x ≤ 122 by omega)
  first | have e65ge := decide_eq_false (show ¬ 65 ≤ x by omega) | have e65ge := decide_eq_true (show 65 ≤ x by omega)
  first | have e90le := decide_eq_false (show ¬ x ≤ 90 by omega) | have e90le := decide_eq_true (show x ≤ 90 by omega)
  first | have e48ge := decide_eq_false (show ¬ 48 ≤ x by omega) | have e48ge := decide_eq_true (show 48 ≤ x by omega)
  first | have e57le := decide_eq_false (show ¬ x ≤ 57 by omega) | have e57le := decide_eq_true (show x ≤ 57 by omega)
  first | have e33ge := decide_eq_false (show ¬ 33 ≤ x by omega) | have e33ge := decide_eq_true (show 33 ≤ x by omega)
  first | have e126le := decide_eq_false (show ¬ x ≤ 126 by omega) | have e126le := decide_eq_true (show x ≤ 126 by omega)
  first | have e160lt := decide_eq_false (show ¬ x < 160 by omega) | have e160lt := decide_eq_true (show x < 160 by omega)
  first | have hsg : bT x = false := FX | have hsg : bT x = true := FV
  have HI := Hd hI;have HG := Hd hsg;have HS := Hd (iz x w);rw [hsg] at HS;clear hI hsg;go_enter func164,ntmps164;go_wp2_with fail;refine HS.mono ?_;rintro e w1 ⟨rfl,rfl⟩;go_wp2_with fail;go_ret;have hI := HI.out;exact ⟨by unfold gp; rw [HG.out]; repeat (first | rfl | rw [if_neg (by first | decide | omega)] | rw [if_pos (by first | decide | omega)]),rfl⟩
theorem rD (s : ByteArray) (h : 1 ≤ s.size) : (bC s).2 ≤ s.size := by
 have e : ∀ (m : Nat) (r : Option Int),m ≤ s.size → (iN m r).2 ≤ s.size := by
  intro m r hm;cases r with
  | none => exact Nat.zero_le _
  | some n => unfold iN; dsimp only; split <;> simp <;> omega
 have e2 : ∀ (n : Int) (m : Nat),(fQ s n m).2 ≤ s.size := by
  intro n m;unfold fQ;split
  · exact Nat.zero_le _
  · exact e _ _ jj
 unfold bC
 repeat' split
 all_goals first | exact e2 _ _ | exact h | exact Nat.zero_le _
theorem wm (s : ByteArray) (w : World) (h1 : 1 ≤ s.size) (hs : s.size ≤ 4096) :
    Calls prog 165 #[.string s] w fun e w' => e = .returned (.tuple #[.int .i64 (bC s).1,.int .i64 ((bC s).2 : Int)]) ∧ Fr (fun _ => False) w w' := by
 obtain ⟨rf,hrf⟩ : ∃ rf,rf = bC s := ⟨_,rfl⟩;rw [← hrf];unfold bC at hrf;have HRF := Hd hrf;clear hrf;have hix : ∀ w : World,(Instr.index 9 (.string s) (.int .i64 0)).run prog w = .ok (.int .u8 (ae s 0)) w := ct (s := s) (i := 0) jj;have hbl := fY s 0;generalize hc : ae s 0 = c at *;clear hc;rcases (show c < 128 ∨ (128 ≤ c ∧ c < 192) ∨ (192 ≤ c ∧ c < 224) ∨ (224 ≤ c ∧ c < 240) ∨ (240 ≤ c ∧ c < 248) ∨ 248 ≤ c by omega) with hI | hI | hI | hI | hI | hI
 · have e192ge : decide (192 ≤ c) = false := FX;have e224ge : decide (224 ≤ c) = false := FX;have e240ge : decide (240 ≤ c) = false := FX;have e128lt : decide (c < 128) = true := FV;have e224lt : decide (c < 224) = true := FV;have e240lt : decide (c < 240) = true := FV;have e248lt : decide (c < 248) = true := FV;have HV := Hd (show rf = (c,1) by rw [HRF.out]; repeat (first | rw [if_neg jj] | rw [if_pos jj]));have HI := Hd hI;clear hI HRF;go_enter func165,ntmps165;go_wp2_with fail;go_ret2;exact ⟨by rw [HV.out]; rfl,Fr.refl _ _⟩
 · have e192ge : decide (192 ≤ c) = false := FX;have e224ge : decide (224 ≤ c) = false := FX;have e240ge : decide (240 ≤ c) = false := FX;have e128lt : decide (c < 128) = false := FX;have e224lt : decide (c < 224) = true := FV;have e240lt : decide (c < 240) = true := FV;have e248lt : decide (c < 248) = true := FV;have HV := Hd (show rf = (-1,0) by rw [HRF.out]; repeat (first | rw [if_neg jj] | rw [if_pos jj]));have HI := Hd hI;clear hI HRF;go_enter func165,ntmps165;go_wp2_with fail;go_ret2;exact ⟨by rw [HV.out]; rfl,Fr.refl _ _⟩
 · have e192ge : decide (192 ≤ c) = true := FV;have e224ge : decide (224 ≤ c) = false := FX;have e240ge : decide (240 ≤ c) = false := FX;have e128lt : decide (c < 128) = false := FX;have e224lt : decide (c < 224) = true := FV;have e240lt : decide (c < 240) = true := FV;have e248lt : decide (c < 248) = true := FV;have HV := Hd (show rf = fQ s (c - 192) 2 by rw [HRF.out]; repeat (first | rw [if_neg jj] | rw [if_pos jj]));have HI := Hd hI;clear hI HRF;by_cases hsz : s.size < 2
   · have hsz1 : (s.size : Int) < 2 := jj;have HV := Hd (show rf = (-1,0) by rw [HV.out]; unfold fQ; rw [if_pos hsz]);go_enter func165,ntmps165;go_wp2_with fail;go_ret2;exact ⟨by rw [HV.out]; rfl,Fr.refl _ _⟩
   · have hsz1 : decide ((s.size : Int) < 2) = false := FX;have hsz3 : (2 : Int) ≤ (s.size : Int) := jj;have HV := Hd (show rf = iN 2 (dD s 2 1 (c - 192)) by rw [HV.out]; unfold fQ; rw [if_neg hsz]);obtain ⟨r0,hr0⟩ : ∃ r0,r0 = dD s 2 1 (c - 192) := ⟨_,rfl⟩;rw [← hr0] at HV;have HR0 := Hd hr0;clear hr0 hsz;go_enter func165,ntmps165;go_wp2_with fail
     go_loopw [4,7] (fun nv kv wr => ∃ (n : Int) (k : Nat),nv = .int .i64 n ∧ kv = .int .i64 (k : Int) ∧ 1 ≤ k ∧ k ≤ 2 ∧ 0 ≤ n ∧ n + 1 ≤ 32 * 64 ^ (k - 1) ∧ wr = w ∧ dD s 2 k n = r0) (fun _ kv _ => 2 - (intOf kv).toNat)
     case atStart => have hI := HI.out; exact ⟨c - 192,1,by go_num,rfl,by omega,by omega,by omega,by simp; omega,rfl,HR0.symm⟩
     case round =>
      obtain ⟨n,k,rfl,rfl,hk1,hk2,hn0,hn1,rfl,hcn⟩ := hrel;have hnb : n < 8388608 := by
       have : k = 1 ∨ k = 2 ∨ k = 3 ∨ k = 4 := jj;rcases this with rfl | rfl | rfl | rfl <;> simp at hn1 <;> omega
      by_cases hlt : k < 2
      · have hlt' : (k : Int) < 2 := jj;have hks : (k : Int) < (s.size : Int) := jj;have hkx := ct (s := s) (i := k) jj;have hbk := fY s k;rw [b9 s 2 k n hlt] at hcn;generalize ae s k = b at *;have HCN := Hd hcn;have hpow : (64 : Int) ^ k = 64 * 64 ^ (k - 1) := by
         obtain ⟨j,rfl⟩ : ∃ j,k = j + 1 := ⟨k - 1,by omega⟩;rw [Int.pow_succ]; simp; omega
        have HN1 := Hd (And.intro hn1 hpow);clear hcn hn1 hpow;by_cases hb1 : b < 128
        · have hb1' : decide (b < 128) = true := decide_eq_true hb1;have HX := Hd (show rf = (-1,0) by rw [HV.out,← HCN.out,if_pos (.inl hb1)]; rfl);go_wp2_with fail;go_ret2;exact ⟨by rw [HX.out]; rfl,Fr.refl _ _⟩
        · have hb1' : decide (b < 128) = false := decide_eq_false hb1;by_cases hb2 : 191 < b
          · have hb2' : decide (191 < b) = true := decide_eq_true hb2;have HX := Hd (show rf = (-1,0) by rw [HV.out,← HCN.out,if_pos (.inr hb2)]; rfl);clear hb1;go_wp2_with fail;go_ret2;exact ⟨by rw [HX.out]; rfl,Fr.refl _ _⟩
          · have hb2' : decide (191 < b) = false := decide_eq_false hb2;have HX := Hd (show dD s 2 (k + 1) (n * 64 + b - 128) = r0 by rw [← HCN.out,if_neg jj]);have hb3 : 128 ≤ b := jj;have hb4 : b ≤ 191 := jj;clear hb1 hb2;go_wp2_with fail;go_roundw
            case rel => exact ⟨n * 64 + b - 128,k + 1,by go_num,by go_num,by omega,by omega,by omega,by have h1 := HN1.1; have h2 := HN1.2; simp only [Nat.add_sub_cancel]; rw [h2]; omega,by simp,HX⟩
            case measure => simp [intOf]; omega
      · have hge : (2 : Int) ≤ (k : Int) := jj;have hlf : ¬ (k : Int) < 2 := jj;rw [eD s 2 k n hlt] at hcn;have HX := Hd (show rf = iN 2 (some n) by rw [HV.out,← hcn]);rw [dR] at HX;clear hcn hlt hn1;have HS := Hd (fun w => iz n w);have HB := Hd (fun w => jf n w);have hbm : ay n ≤ 4 := by unfold ay; (repeat' split) <;> omega
        generalize bT n = sg at *;generalize ay n = bl at *;cases sg with
        | false =>
         have HY := Hd (show rf = (-1,0) by rw [HX.out]; simp);clear HX;go_wp2_with fail;refine (HS _).mono ?_;rintro e w1 ⟨rfl,rfl⟩;go_wp2_with fail;go_ret2;exact ⟨by rw [HY.out]; rfl,Fr.refl _ _⟩
        | true =>
         by_cases hbl2 : bl = 2
         · subst hbl2;have HY := Hd (show rf = (n,2) by rw [HX.out]; simp);clear HX;go_wp2_with fail;refine (HS _).mono ?_;rintro e w1 ⟨rfl,rfl⟩;go_wp2_with fail;refine (HB _).mono ?_;rintro e w2 ⟨A,c2,rfl,hf⟩;have HF := Hd hf;clear hf;go_wp2_with fail;go_ret2;exact ⟨by rw [HY.out]; rfl,HF⟩
         · have hne : (((bl : Nat) : Int) != 2) = true := by simp; omega
           have HY := Hd (show rf = (-1,0) by rw [HX.out]; simp [hbl2]);clear HX;clear hbl2;go_wp2_with fail;refine (HS _).mono ?_;rintro e w1 ⟨rfl,rfl⟩;go_wp2_with fail;refine (HB _).mono ?_;rintro e w2 ⟨A,c2,rfl,hf⟩;have HF := Hd hf;clear hf;go_wp2_with fail;go_ret2;exact ⟨by rw [HY.out]; rfl,HF⟩
 · have e192ge : decide (192 ≤ c) = true := FV;have e224ge : decide (224 ≤ c) = true := FV;have e240ge : decide (240 ≤ c) = false := FX;have e128lt : decide (c < 128) = false := FX;have e224lt : decide (c < 224) = false := FX;have e240lt : decide (c < 240) = true := FV;have e248lt : decide (c < 248) = true := FV;have HV := Hd (show rf = fQ s (c - 224) 3 by rw [HRF.out]; repeat (first | rw [if_neg jj] | rw [if_pos jj]));have HI := Hd hI;clear hI HRF;by_cases hsz : s.size < 3
   · have hsz1 : (s.size : Int) < 3 := jj;have HV := Hd (show rf = (-1,0) by rw [HV.out]; unfold fQ; rw [if_pos hsz]);go_enter func165,ntmps165;go_wp2_with fail;go_ret2;exact ⟨by rw [HV.out]; rfl,Fr.refl _ _⟩
   · have hsz1 : decide ((s.size : Int) < 3) = false := FX;have hsz3 : (3 : Int) ≤ (s.size : Int) := jj;have HV := Hd (show rf = iN 3 (dD s 3 1 (c - 224)) by rw [HV.out]; unfold fQ; rw [if_neg hsz]);obtain ⟨r0,hr0⟩ : ∃ r0,r0 = dD s 3 1 (c - 224) := ⟨_,rfl⟩;rw [← hr0] at HV;have HR0 := Hd hr0;clear hr0 hsz;go_enter func165,ntmps165;go_wp2_with fail
     go_loopw [4,7] (fun nv kv wr => ∃ (n : Int) (k : Nat),nv = .int .i64 n ∧ kv = .int .i64 (k : Int) ∧ 1 ≤ k ∧ k ≤ 3 ∧ 0 ≤ n ∧ n + 1 ≤ 32 * 64 ^ (k - 1) ∧ wr = w ∧ dD s 3 k n = r0) (fun _ kv _ => 3 - (intOf kv).toNat)
     case atStart => have hI := HI.out; exact ⟨c - 224,1,by go_num,rfl,by omega,by omega,by omega,by simp; omega,rfl,HR0.symm⟩
     case round =>
      obtain ⟨n,k,rfl,rfl,hk1,hk2,hn0,hn1,rfl,hcn⟩ := hrel;have hnb : n < 8388608 := by
       have : k = 1 ∨ k = 2 ∨ k = 3 ∨ k = 4 := jj;rcases this with rfl | rfl | rfl | rfl <;> simp at hn1 <;> omega
      by_cases hlt : k < 3
      · have hlt' : (k : Int) < 3 := jj;have hks : (k : Int) < (s.size : Int) := jj;have hkx := ct (s := s) (i := k) jj;have hbk := fY s k;rw [b9 s 3 k n hlt] at hcn;generalize ae s k = b at *;have HCN := Hd hcn;have hpow : (64 : Int) ^ k = 64 * 64 ^ (k - 1) := by
         obtain ⟨j,rfl⟩ : ∃ j,k = j + 1 := ⟨k - 1,by omega⟩;rw [Int.pow_succ]; simp; omega
        have HN1 := Hd (And.intro hn1 hpow);clear hcn hn1 hpow;by_cases hb1 : b < 128
        · have hb1' : decide (b < 128) = true := decide_eq_true hb1;have HX := Hd (show rf = (-1,0) by rw [HV.out,← HCN.out,if_pos (.inl hb1)]; rfl);go_wp2_with fail;go_ret2;exact ⟨by rw [HX.out]; rfl,Fr.refl _ _⟩
        · have hb1' : decide (b < 128) = false := decide_eq_false hb1;by_cases hb2 : 191 < b
          · have hb2' : decide (191 < b) = true := decide_eq_true hb2;have HX := Hd (show rf = (-1,0) by rw [HV.out,← HCN.out,if_pos (.inr hb2)]; rfl);clear hb1;go_wp2_with fail;go_ret2;exact ⟨by rw [HX.out]; rfl,Fr.refl _ _⟩
          · have hb2' : decide (191 < b) = false := decide_eq_false hb2;have HX := Hd (show dD s 3 (k + 1) (n * 64 + b - 128) = r0 by rw [← HCN.out,if_neg jj]);have hb3 : 128 ≤ b := jj;have hb4 : b ≤ 191 := jj;clear hb1 hb2;go_wp2_with fail;go_roundw
            case rel => exact ⟨n * 64 + b - 128,k + 1,by go_num,by go_num,by omega,by omega,by omega,by have h1 := HN1.1; have h2 := HN1.2; simp only [Nat.add_sub_cancel]; rw [h2]; omega,by simp,HX⟩
            case measure => simp [intOf]; omega
      · have hge : (3 : Int) ≤ (k : Int) := jj;have hlf : ¬ (k : Int) < 3 := jj;rw [eD s 3 k n hlt] at hcn;have HX := Hd (show rf = iN 3 (some n) by rw [HV.out,← hcn]);rw [dR] at HX;clear hcn hlt hn1;have HS := Hd (fun w => iz n w);have HB := Hd (fun w => jf n w);have hbm : ay n ≤ 4 := by unfold ay; (repeat' split) <;> omega
        generalize bT n = sg at *;generalize ay n = bl at *;cases sg with
        | false =>
         have HY := Hd (show rf = (-1,0) by rw [HX.out]; simp);clear HX;go_wp2_with fail;refine (HS _).mono ?_;rintro e w1 ⟨rfl,rfl⟩;go_wp2_with fail;go_ret2;exact ⟨by rw [HY.out]; rfl,Fr.refl _ _⟩
        | true =>
         by_cases hbl2 : bl = 3
         · subst hbl2;have HY := Hd (show rf = (n,3) by rw [HX.out]; simp);clear HX;go_wp2_with fail;refine (HS _).mono ?_;rintro e w1 ⟨rfl,rfl⟩;go_wp2_with fail;refine (HB _).mono ?_;rintro e w2 ⟨A,c2,rfl,hf⟩;have HF := Hd hf;clear hf;go_wp2_with fail;go_ret2;exact ⟨by rw [HY.out]; rfl,HF⟩
         · have hne : (((bl : Nat) : Int) != 3) = true := by simp; omega
           have HY := Hd (show rf = (-1,0) by rw [HX.out]; simp [hbl2]);clear HX;clear hbl2;go_wp2_with fail;refine (HS _).mono ?_;rintro e w1 ⟨rfl,rfl⟩;go_wp2_with fail;refine (HB _).mono ?_;rintro e w2 ⟨A,c2,rfl,hf⟩;have HF := Hd hf;clear hf;go_wp2_with fail;go_ret2;exact ⟨by rw [HY.out]; rfl,HF⟩
 · have e192ge : decide (192 ≤ c) = true := FV;have e224ge : decide (224 ≤ c) = true := FV;have e240ge : decide (240 ≤ c) = true := FV;have e128lt : decide (c < 128) = false := FX;have e224lt : decide (c < 224) = false := FX;have e240lt : decide (c < 240) = false := FX;have e248lt : decide (c < 248) = true := FV;have HV := Hd (show rf = fQ s (c - 240) 4 by rw [HRF.out]; repeat (first | rw [if_neg jj] | rw [if_pos jj]));have HI := Hd hI;clear hI HRF;by_cases hsz : s.size < 4
   · have hsz1 : (s.size : Int) < 4 := jj;have HV := Hd (show rf = (-1,0) by rw [HV.out]; unfold fQ; rw [if_pos hsz]);go_enter func165,ntmps165;go_wp2_with fail;go_ret2;exact ⟨by rw [HV.out]; rfl,Fr.refl _ _⟩
   · have hsz1 : decide ((s.size : Int) < 4) = false := FX;have hsz3 : (4 : Int) ≤ (s.size : Int) := jj;have HV := Hd (show rf = iN 4 (dD s 4 1 (c - 240)) by rw [HV.out]; unfold fQ; rw [if_neg hsz]);obtain ⟨r0,hr0⟩ : ∃ r0,r0 = dD s 4 1 (c - 240) := ⟨_,rfl⟩;rw [← hr0] at HV;have HR0 := Hd hr0;clear hr0 hsz;go_enter func165,ntmps165;go_wp2_with fail
     go_loopw [4,7] (fun nv kv wr => ∃ (n : Int) (k : Nat),nv = .int .i64 n ∧ kv = .int .i64 (k : Int) ∧ 1 ≤ k ∧ k ≤ 4 ∧ 0 ≤ n ∧ n + 1 ≤ 32 * 64 ^ (k - 1) ∧ wr = w ∧ dD s 4 k n = r0) (fun _ kv _ => 4 - (intOf kv).toNat)
     case atStart => have hI := HI.out; exact ⟨c - 240,1,by go_num,rfl,by omega,by omega,by omega,by simp; omega,rfl,HR0.symm⟩
     case round =>
      obtain ⟨n,k,rfl,rfl,hk1,hk2,hn0,hn1,rfl,hcn⟩ := hrel;have hnb : n < 8388608 := by
       have : k = 1 ∨ k = 2 ∨ k = 3 ∨ k = 4 := jj;rcases this with rfl | rfl | rfl | rfl <;> simp at hn1 <;> omega
      by_cases hlt : k < 4
      · have hlt' : (k : Int) < 4 := jj;have hks : (k : Int) < (s.size : Int) := jj;have hkx := ct (s := s) (i := k) jj;have hbk := fY s k;rw [b9 s 4 k n hlt] at hcn;generalize ae s k = b at *;have HCN := Hd hcn;have hpow : (64 : Int) ^ k = 64 * 64 ^ (k - 1) := by
         obtain ⟨j,rfl⟩ : ∃ j,k = j + 1 := ⟨k - 1,by omega⟩;rw [Int.pow_succ]; simp; omega
        have HN1 := Hd (And.intro hn1 hpow);clear hcn hn1 hpow;by_cases hb1 : b < 128
        · have hb1' : decide (b < 128) = true := decide_eq_true hb1;have HX := Hd (show rf = (-1,0) by rw [HV.out,← HCN.out,if_pos (.inl hb1)]; rfl);go_wp2_with fail;go_ret2;exact ⟨by rw [HX.out]; rfl,Fr.refl _ _⟩
        · have hb1' : decide (b < 128) = false := decide_eq_false hb1;by_cases hb2 : 191 < b
          · have hb2' : decide (191 < b) = true := decide_eq_true hb2;have HX := Hd (show rf = (-1,0) by rw [HV.out,← HCN.out,if_pos (.inr hb2)]; rfl);clear hb1;go_wp2_with fail;go_ret2;exact ⟨by rw [HX.out]; rfl,Fr.refl _ _⟩
          · have hb2' : decide (191 < b) = false := decide_eq_false hb2;have HX := Hd (show dD s 4 (k + 1) (n * 64 + b - 128) = r0 by rw [← HCN.out,if_neg jj]);have hb3 : 128 ≤ b := jj;have hb4 : b ≤ 191 := jj;clear hb1 hb2;go_wp2_with fail;go_roundw
            case rel => exact ⟨n * 64 + b - 128,k + 1,by go_num,by go_num,by omega,by omega,by omega,by have h1 := HN1.1; have h2 := HN1.2; simp only [Nat.add_sub_cancel]; rw [h2]; omega,by simp,HX⟩
            case measure => simp [intOf]; omega
      · have hge : (4 : Int) ≤ (k : Int) := jj;have hlf : ¬ (k : Int) < 4 := jj;rw [eD s 4 k n hlt] at hcn;have HX := Hd (show rf = iN 4 (some n) by rw [HV.out,← hcn]);rw [dR] at HX;clear hcn hlt hn1;have HS := Hd (fun w => iz n w);have HB := Hd (fun w => jf n w);have hbm : ay n ≤ 4 := by unfold ay; (repeat' split) <;> omega
        generalize bT n = sg at *;generalize ay n = bl at *;cases sg with
        | false =>
         have HY := Hd (show rf = (-1,0) by rw [HX.out]; simp);clear HX;go_wp2_with fail;refine (HS _).mono ?_;rintro e w1 ⟨rfl,rfl⟩;go_wp2_with fail;go_ret2;exact ⟨by rw [HY.out]; rfl,Fr.refl _ _⟩
        | true =>
         by_cases hbl2 : bl = 4
         · subst hbl2;have HY := Hd (show rf = (n,4) by rw [HX.out]; simp);clear HX;go_wp2_with fail;refine (HS _).mono ?_;rintro e w1 ⟨rfl,rfl⟩;go_wp2_with fail;refine (HB _).mono ?_;rintro e w2 ⟨A,c2,rfl,hf⟩;have HF := Hd hf;clear hf;go_wp2_with fail;go_ret2;exact ⟨by rw [HY.out]; rfl,HF⟩
         · have hne : (((bl : Nat) : Int) != 4) = true := by simp; omega
           have HY := Hd (show rf = (-1,0) by rw [HX.out]; simp [hbl2]);clear HX;clear hbl2;go_wp2_with fail;refine (HS _).mono ?_;rintro e w1 ⟨rfl,rfl⟩;go_wp2_with fail;refine (HB _).mono ?_;rintro e w2 ⟨A,c2,rfl,hf⟩;have HF := Hd hf;clear hf;go_wp2_with fail;go_ret2;exact ⟨by rw [HY.out]; rfl,HF⟩
 · have e192ge : decide (192 ≤ c) = true := FV;have e224ge : decide (224 ≤ c) = true := FV;have e240ge : decide (240 ≤ c) = true := FV;have e128lt : decide (c < 128) = false := FX;have e224lt : decide (c < 224) = false := FX;have e240lt : decide (c < 240) = false := FX;have e248lt : decide (c < 248) = false := FX;have HV := Hd (show rf = (-1,0) by rw [HRF.out]; repeat (first | rw [if_neg jj] | rw [if_pos jj]));have HI := Hd hI;clear hI HRF;go_enter func165,ntmps165;go_wp2_with fail;go_ret2;exact ⟨by rw [HV.out]; rfl,Fr.refl _ _⟩
end Go.Proofs.YtfaapkpebnagmaaGreatDoor
